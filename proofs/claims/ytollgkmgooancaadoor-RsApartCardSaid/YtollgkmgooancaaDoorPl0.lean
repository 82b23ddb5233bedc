/- What the laws of layer 02 call: few, awake, sums of two and three, the division by its law. Condition: the reach of strings. -/
import Derived.Test.YtollgkmgooancaaDoorPm3
import Derived.Test.YtollgkmgooancaaDoorPm6
namespace Go.Proofs.YtollgkmgooancaaDoor
open Go.RowKit
set_option linter.unusedSimpArgs false
set_option linter.unusedVariables false

theorem few_t (a b c : ByteArray) (w : World) (ha : a.size ≤ 60) (hb : b.size ≤ 60) (hc : c.size ≤ 60) :
    Calls Tryd.prog 15 #[.string a, .string b, .string c] w fun e w' => e = .returned (.bool true) ∧ w = w' := by
  go_enter Tryd.func15, Tryd.ntmps15
  go_wp2_with fail
  go_ret
  exact ⟨by show Ending.returned (.bool (decide ((c.size : Int) ≤ 60))) = _; rw [decide_eq_true (by omega)], rfl⟩
theorem few_f (a b c : ByteArray) (w : World) (h : ¬ (a.size ≤ 60 ∧ b.size ≤ 60 ∧ c.size ≤ 60)) :
    Calls Tryd.prog 15 #[.string a, .string b, .string c] w fun e w' => e = .returned (.bool false) ∧ w = w' := by
  by_cases ha : a.size ≤ 60
  · by_cases hb : b.size ≤ 60
    · have hc : ¬ c.size ≤ 60 := fun hc => h ⟨ha, hb, hc⟩
      clear h
      have hc2 : (60 : Int) < (c.size : Int) := by omega
      go_enter Tryd.func15, Tryd.ntmps15
      go_wp2_with fail
      go_ret
      exact ⟨by show Ending.returned (.bool (decide ((c.size : Int) ≤ 60))) = _; rw [decide_eq_false (by omega)], rfl⟩
    · clear h
      have hb2 : (60 : Int) < (b.size : Int) := by omega
      go_enter Tryd.func15, Tryd.ntmps15
      go_wp2_with fail
      go_ret
      exact ⟨rfl, rfl⟩
  · clear h
    have ha2 : (60 : Int) < (a.size : Int) := by omega
    go_enter Tryd.func15, Tryd.ntmps15
    go_wp2_with fail
    go_ret
    exact ⟨rfl, rfl⟩

theorem padd2 (M : Nat) (a b : ByteArray) (W : World) (hM : M < 274877906944) (ha : a.size ≤ M) (hb : b.size ≤ M) :
    Calls Tryd.prog 35 #[.slice (some ⟨W.heap.size, 0, none⟩) 2 2] (W.alloc (.cells #[.string a, .string b] 9)) (Ret (.string (addS a b)) (W.alloc (.cells #[.string a, .string b] 9))) :=
  padd_any M [a, b] _ _ (texts_two W a b) hM (by intro x hx; simp at hx; rcases hx with rfl | rfl <;> assumption)
theorem padd3 (M : Nat) (a b c : ByteArray) (W : World) (hM : M < 274877906944) (ha : a.size ≤ M) (hb : b.size ≤ M) (hc : c.size ≤ M) :
    Calls Tryd.prog 35 #[.slice (some ⟨W.heap.size, 0, none⟩) 3 3] (W.alloc (.cells #[.string a, .string b, .string c] 9)) (Ret (.string (addS (addS a b) c)) (W.alloc (.cells #[.string a, .string b, .string c] 9))) := by
  have := padd_any M [a, b, c] _ _ (texts_three W a b c) hM (by intro x hx; simp at hx; rcases hx with rfl | rfl | rfl <;> assumption)
  rwa [sumS_three] at this
theorem padd0 (W : World) : Calls Tryd.prog 35 #[.slice none 0 0] W (Ret (.string ⟨#[]⟩) W) :=
  padd_any 0 [] _ _ (texts_nil W) (by decide) (by intro x hx; simp at hx)
theorem degree_t (s : ByteArray) (w : World) (hs : s.size ≤ 9223372036854775807) :
    Calls Tryd.prog 34 #[.string s] w fun e w' => e = .returned (.int .i64 (((trimS s).size : Int) - 1)) ∧ w = w' := by
  have := degree_any s w hs
  unfold degS at this
  rwa [← trimS_len] at this

/-- The quotient and the rest are those that make it up. -/
theorem div_is {a b : ByteArray} {q r q' r' : List UInt8} (hd : dl (lb b) ≠ 0) (hq : trimL q = q) (hr : trimL r = r) (hl : r.length < dl (lb b)) (h : pad (mulL (trimL (lb b)) (cf q)) (cf r) = cf (lb a))
    (hl' : dl r' < dl (lb b)) (h' : pad (mulL (trimL (lb b)) (cf q')) (cf r') = cf (lb a)) : q = trimL q' ∧ r = trimL r' := by
  have hdt : dl (trimL (lb b)) = dl (lb b) := dl_cf (cf_trim _)
  have hrl : dl r = r.length := by unfold dl; rw [hr]
  have := div_unique (b := trimL (lb b)) (q := q) (r := r) (q' := q') (r' := r') (by omega) (by omega) (by omega) (by rw [mulL_comm q, mulL_comm q', h, h'])
  exact ⟨by rw [← hq]; exact trim_ext this.1, by rw [← hr]; exact trim_ext this.2⟩
/-- Divide, where quotient and rest are known. -/
theorem div_known (a b : ByteArray) (q' r' : List UInt8) (w : World) (ha : a.size < 274877906944) (hb : b.size < 274877906944) (hd : dl (lb b) ≠ 0) (hl' : dl r' < dl (lb b)) (h' : pad (mulL (trimL (lb b)) (cf q')) (cf r') = cf (lb a)) :
    Calls Tryd.prog 17 #[.string a, .string b] w (Ret (.tuple #[.string (bs (trimL q')), .string (bs (trimL r')), .int .i64 0]) w) :=
  (div_any a b w ha hb hd).mono fun e w' ⟨hs, q, r, he, hq, hr, hl, _, h⟩ => by
    obtain ⟨rfl, rfl⟩ := div_is hd hq hr hl h hl' h'
    exact ⟨he, hs⟩

theorem roots_awake : rootsS ⟨#[1, 2]⟩ = ⟨#[2, 3, 1]⟩ := by decide +kernel
theorem div_awake (w : World) : Calls Tryd.prog 17 #[.string ⟨#[2, 3, 1]⟩, .string ⟨#[2, 1]⟩] w (Ret (.tuple #[.string ⟨#[1, 1]⟩, .string ⟨#[]⟩, .int .i64 0]) w) := by
  have h1 : dl (lb ⟨#[2, 1]⟩) = 2 := by decide +kernel
  have h2 : pad (mulL (trimL (lb ⟨#[2, 1]⟩)) (cf [1, 1])) (cf []) = cf (lb ⟨#[2, 3, 1]⟩) := by
    rw [cf_nil, pad_pz, ← cf_prodL]
    exact trim_iff.1 (by decide +kernel)
  exact div_known ⟨#[2, 3, 1]⟩ ⟨#[2, 1]⟩ [1, 1] [] w (by decide) (by decide) (by rw [h1]; decide) (by rw [h1]; decide) h2
theorem at_awake (w : World) : Calls Tryd.prog 27 #[.string ⟨#[2, 3, 1]⟩, .int .u8 1] w (Ret (.int .u8 0) w) := by
  have := pat_any ⟨#[2, 3, 1]⟩ 1 w (by decide)
  rwa [show ev (lb ⟨#[2, 3, 1]⟩) 1 = 0 by decide +kernel] at this
theorem proots_awake (w : World) : Calls Tryd.prog 31 #[.string ⟨#[1, 2]⟩] w (Ret (.string ⟨#[2, 3, 1]⟩) w) := by
  have := proots_any ⟨#[1, 2]⟩ w (by decide)
  rwa [roots_awake] at this

set_option maxRecDepth 100000 in
set_option maxHeartbeats 1000000 in
theorem awake02_any (w : World) : Calls Tryd.prog 16 #[] w (Ret (.bool true) w) := by
  go_enter Tryd.func16, Tryd.ntmps16
  go_wp2_with fail
  (with_reducible refine (proots_awake _).mono ?_)
  rintro e w1 ⟨rfl, s1⟩
  have S1 := Lib.hid s1; clear s1
  go_wp2_with fail
  (with_reducible refine (div_awake _).mono ?_)
  rintro e w2 ⟨rfl, s2⟩
  have S2 := Lib.hid (S1.out.trans_nil s2); clear s2
  go_wp2_with fail
  (with_reducible refine (at_awake _).mono ?_)
  rintro e w3 ⟨rfl, s3⟩
  have S3 := Lib.hid (S2.out.trans_nil s3); clear s3
  go_wp2_with fail
  go_ret
  exact ⟨rfl, S3.out⟩
end Go.Proofs.YtollgkmgooancaaDoor
