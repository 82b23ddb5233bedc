/- The packer's next body (next). Conditions: the sections have bytes, and fewer than 2^40 together. What is wrong with a section that is to be packed (Check), in the program and in the reference. Condition: fewer than 2^40 bytes. -/
import Derived.Test.YtpkpfebhdgbgbaaGreatDoorTJPq1
import Derived.Test.YtpkpfebhdgbgbaaGreatDoorTJBd6
namespace Go.Proofs.YtpkpfebhdgbgbaaGreatDoor.J
open Go.RowKit
set_option linter.unusedSimpArgs false
set_option linter.unusedVariables false

def nextG (t : ByteArray) (l : List ByteArray) : (Bool × ByteArray) × (ByteArray × List ByteArray) :=
  if 183 ≤ t.size then ((false, t.extract 0 (min t.size 184)), (t.extract (min t.size 184) t.size, l))
  else if t.size ≠ 0 ∧ l = [] then ((false, fillG t), (⟨#[]⟩, []))
  else ((true, fillG (strOfNums [(t.size : Int)] ++ (t ++ catL l).extract 0 183)), advG l (183 - t.size))
theorem adv_all : ∀ (l : List ByteArray), (∀ x ∈ l, 0 < x.size) → ∀ m, (catL l).size ≤ m → advG l m = (⟨#[]⟩, [])
  | [], _, m, _ => rfl
  | x :: l, hp, m, hm => by
    have hx := hp x List.mem_cons_self
    rw [catL, ByteArray.size_append] at hm
    rw [advG, if_neg (by omega), if_neg (by omega)]
    exact adv_all l (fun y hy => hp y (List.mem_cons_of_mem _ hy)) _ (by omega)
theorem extract_clip (s : ByteArray) (n : Nat) : s.extract 0 (min n s.size) = s.extract 0 n := by
  apply ByteArray.ext
  rw [ByteArray.data_extract, ByteArray.data_extract]
  have h1 : s.data.size = s.size := rfl
  apply Array.ext
  · simp only [Array.size_extract]; omega
  · intro j g1 g2; simp only [Array.getElem_extract]
theorem pack_next {k : Nat} {t : ByteArray} {l : List ByteArray} (hp : ∀ x ∈ l, 0 < x.size) (h0 : ¬ (t ++ catL l).size = 0) : packG (k + 1) t l = (nextG t l).1 :: packG k (nextG t l).2.1 (nextG t l).2.2 := by
  have hsz : (t ++ catL l).size = t.size + (catL l).size := ByteArray.size_append
  unfold nextG
  by_cases h1 : 183 ≤ t.size
  · rw [if_pos h1, pack_rest k h0 h1]
  · rw [if_neg h1]
    by_cases h2 : t.size ≠ 0 ∧ l = []
    · rw [if_pos h2]
      obtain ⟨h2, rfl⟩ := h2
      rw [pack_last k h2 h1]
      simp only
      rw [pack_nil k (by rfl)]
    · rw [if_neg h2, pack_begin k h0 h1 h2, extract_clip]
      have hadv : advG l (min 183 (t ++ catL l).size - t.size) = advG l (183 - t.size) := by
        by_cases h3 : (t ++ catL l).size ≤ 183
        · rw [Nat.min_eq_right h3, adv_all l hp _ (by omega), adv_all l hp _ (by omega)]
        · rw [Nat.min_eq_left (by omega)]
      rw [hadv]
theorem next_size (t : ByteArray) (l : List ByteArray) (h0 : ¬ (t ++ catL l).size = 0) (hp : ∀ x ∈ l, 0 < x.size) : ((nextG t l).2.1 ++ catL (nextG t l).2.2).size < (t ++ catL l).size ∧ (nextG t l).1.2.size ≤ 184 ∧ ∀ x ∈ (nextG t l).2.2, x ∈ l := by
  have hsz : (t ++ catL l).size = t.size + (catL l).size := ByteArray.size_append
  unfold nextG
  by_cases h1 : 183 ≤ t.size
  · rw [if_pos h1]
    refine ⟨?_, ?_, fun x hx => hx⟩
    · simp only [ByteArray.size_append, ByteArray.size_extract]; omega
    · simp only [ByteArray.size_extract]; omega
  · rw [if_neg h1]
    by_cases h2 : t.size ≠ 0 ∧ l = []
    · rw [if_pos h2]
      refine ⟨?_, Nat.le_of_eq (size_fill t (by omega)), (fun x hx => nomatch hx)⟩
      show 0 < _; omega
    · rw [if_neg h2]
      have hmem : ∀ (l : List ByteArray) (m : Nat), ∀ x ∈ (advG l m).2, x ∈ l := by
        intro l
        induction l with
        | nil => intro m x hx; exact hx
        | cons y l ih =>
          intro m x hx
          unfold advG at hx
          split at hx
          · exact hx
          · split at hx
            · exact List.mem_cons_of_mem _ hx
            · exact List.mem_cons_of_mem _ (ih _ x hx)
      refine ⟨?_, Nat.le_of_eq (size_fill _ ?_), hmem l _⟩
      · by_cases h3 : (catL l).size ≤ 183 - t.size
        · rw [adv_all l hp _ h3]; show 0 < _; omega
        · rw [adv_cat l _ (by omega), ByteArray.size_extract]; omega
      · rw [ByteArray.size_append, snums, ByteArray.size_extract]; simp; omega

theorem repeat_int (x : Int) (n : Nat) (hx : x = n) (w : World) (hn : n ≤ 1000000) : Calls Tryz.prog 101 #[.string ⟨#[255]⟩, .int .i64 x] w (Ret (.string (stuffOf n)) w) := hx ▸ repeat_any n w hn

theorem scellb {b : Nat} {W w1 : World} (hs : Same [b] W w1) : ∀ k o, k < W.heap.size → k ≠ b → w1.cell? ⟨k, o, none⟩ = W.cell? ⟨k, o, none⟩ :=
  fun k o h hb => World.cell?_of_block (hs.block k h (by simpa using hb))
def NextP (w : World) (b : Nat) (t : ByteArray) (l : List ByteArray) (e : Ending) (w' : World) : Prop :=
  e = .returned (.tuple #[.string (nextG t l).1.2, .bool (nextG t l).1.1]) ∧ ∃ v', StAt w' b (nextG t l).2.1 v' ∧ LsAt w' b v' (nextG t l).2.2 ∧ Same [b] w w'

set_option maxRecDepth 100000 in
set_option maxHeartbeats 4000000 in
theorem snext_any {w : World} {b : Nat} {t : ByteArray} {v : Value} {l : List ByteArray} (hst : StAt w b t v) (hls : LsAt w b v l) (hz : (t ++ catL l).size < 1099511627776) :
    Calls Tryz.prog 67 #[.pointer (some ⟨b, 0, none⟩)] w (NextP w b t l) := by
  have hb := heap_lt hst
  have hsz : (t ++ catL l).size = t.size + (catL l).size := ByteArray.size_append
  obtain ⟨ad, c, rfl, hlc, hcm, hl3⟩ := id hls
  have HST := Lib.hid hst; have HLS := Lib.hid hls; have HZ := Lib.hid hz
  obtain ⟨⟨c0, c1⟩, f0, f1⟩ := hst.cells
  clear hst hls hz hl3
  by_cases h1 : 183 ≤ t.size
  · have hg : nextG t l = ((false, t.extract 0 (min t.size 184)), (t.extract (min t.size 184) t.size, l)) := by unfold nextG; rw [if_pos h1]
    obtain ⟨n, hn⟩ : ∃ n, n = min t.size 184 := ⟨_, rfl⟩
    rw [← hn] at hg
    have HG := Lib.hid hg
    have h1' : (183 : Int) ≤ (t.size : Int) := by omega
    have h1'' : ¬ (t.size : Int) < 183 := by omega
    have hmin : min (t.size : Int) 184 = (n : Int) := by omega
    have hnt : (n : Int) ≤ (t.size : Int) := by omega
    have hez : (t.extract 0 n).size = n := by rw [ByteArray.size_extract]; omega
    clear hg hn
    all_goals
      go_enter Tryz.func67, Tryz.ntmps67
      go_wp2_with fail
      go_ret2
      refine ⟨?_, .slice ad l.length c, ?_, ?_, (Same.refl [b] w).setCell (by simp) _⟩
      · rw [HG.out]; rfl
      · rw [HG.out]; exact HST.out.set0 _
      · rw [HG.out]; exact HLS.out.same ((Same.refl [b] w).setCell (by simp) _) (by simp)
  · have h1' : ¬ (183 : Int) ≤ (t.size : Int) := by omega
    have h1'' : (t.size : Int) < 183 := by omega
    by_cases h2 : t.size ≠ 0 ∧ l = []
    · have hg : nextG t l = ((false, fillG t), (⟨#[]⟩, [])) := by unfold nextG; rw [if_neg h1, if_pos h2]
      obtain ⟨h2, rfl⟩ := h2
      have HG := Lib.hid hg
      have h2' : (0 : Int) < (t.size : Int) := by omega
      have hmn : min (t.size : Int) 184 = (t.size : Int) := by omega
      have hw := extract_whole t
      have hez : t.extract t.size t.size = ⟨#[]⟩ := ByteArray.extract_same
      have HR := Lib.hid (fun W => repeat_int (184 - (t.size : Int)) (184 - t.size) (by omega) W (by omega))
      have hsa : ∀ a b : ByteArray, (a ++ b).size = a.size + b.size := fun a b => ByteArray.size_append
      have hss := size_stuff (184 - t.size)
      have hfl : t ++ stuffOf (184 - t.size) = fillG t := rfl
      have HFL := Lib.hid hfl
      generalize stuffOf (184 - t.size) = sf at *
      clear hg hfl
      go_enter Tryz.func67, Tryz.ntmps67
      go_wp2_with fail
      (with_reducible refine (HR.out _).mono ?_)
      rintro e w2 ⟨rfl, s2⟩
      have hst2 : StAt w2 b ⟨#[]⟩ (.slice ad 0 c) := (HST.out.set0 _).same s2 (by simp)
      have hsm : Same [b] w w2 := ((Same.refl [b] w).setCell (p := ⟨b, 0, none⟩) (by simp) (.string ⟨#[]⟩)).trans_nil s2
      have HST2 := Lib.hid hst2; have HSM := Lib.hid hsm; have HLS2 := Lib.hid (HLS.out.same hsm (by simp))
      clear hst2 hsm s2
      go_wp2_with fail
      go_ret2
      refine ⟨?_, .slice ad 0 c, ?_, ?_, HSM.out⟩
      · rw [HG.out, ← HFL.out]; rfl
      · rw [HG.out]; exact HST2.out
      · rw [HG.out]; exact HLS2.out
    · have hg : nextG t l = ((true, fillG (strOfNums [(t.size : Int)] ++ (t ++ catL l).extract 0 183)), advG l (183 - t.size)) := by unfold nextG; rw [if_neg h1, if_neg h2]
      have hadv : advT t l 183 = advG l (183 - t.size) := advT_whole (by omega)
      have hcond : ((0 : Int) < (t.size : Int) ∧ ((l.length : Int) == 0) = false) ∨ ¬ (0 : Int) < (t.size : Int) := by
        by_cases h3 : t.size = 0
        · exact .inr (by omega)
        · refine .inl ⟨by omega, ?_⟩
          have : l ≠ [] := fun e => h2 ⟨h3, e⟩
          have := List.length_pos_iff.2 this
          simp; omega
      have hez : ((t ++ catL l).extract 0 183).size ≤ 183 := by rw [ByteArray.size_extract]; omega
      have HTK := Lib.hid (fun W (h : StAt W b t (.slice ad l.length c)) (h2 : LsAt W b (.slice ad l.length c) l) => stake_any h h2 HZ.out)
      have HG := Lib.hid hg; have HADV := Lib.hid hadv
      obtain ⟨X, hX⟩ : ∃ X, X = strOfNums [(t.size : Int)] ++ (t ++ catL l).extract 0 183 := ⟨_, rfl⟩
      have hXz : X.size ≤ 184 := by rw [hX, ByteArray.size_append, snums]; simp; omega
      have HX := Lib.hid hX
      have hc1 := conv1; have hsn := snums
      have hsa : ∀ a b : ByteArray, (a ++ b).size = a.size + b.size := fun a b => ByteArray.size_append
      have hne : w.heap.size ≠ b := by omega
      have hbig2 : ¬ 9223372036854775807 < 1 + min 183 (t.size + (catL l).size) := by omega
      have hw2 : IntKind.u8.wrap (t.size : Int) = (t.size : Int) := IntWalk.u8_in _ (by omega)
      have hbig : ¬ 9223372036854775807 < 1 + ((t ++ catL l).extract 0 183).size := by omega
      clear hg hadv h1 h2 hX hsz
      go_enter Tryz.func67, Tryz.ntmps67
      go_upto_region 2 with fail
      go_cut [25] (fun s25 wx => s25 = .bool false ∧ w = wx)
      case first =>
        rcases hcond with ⟨g1, g2⟩ | g1
        all_goals (go_wp2_with fail; go_meet; exact ⟨rfl, rfl⟩)
      obtain ⟨rfl, rfl⟩ := hcut
      clear hcond
      go_upto_region 8 with fail
      go_cut [6] (fun s6 wx => s6 = .string X ∧ ∃ v', StAt wx b (advG l (183 - t.size)).1 v' ∧ LsAt wx b v' (advG l (183 - t.size)).2 ∧ Same [b] w wx)
      case first =>
        go_region_with (go_at_call 102; refine Calls.mono (HTK.out _ ?_ ?_) ?_; exact HST.out.same (S := []) (by repeat (first | exact Same.refl _ _ | refine Same.drew ?_ | refine Same.alloc ?_ _)) (by simp); exact HLS.out.same (S := []) (by repeat (first | exact Same.refl _ _ | refine Same.drew ?_ | refine Same.alloc ?_ _)) (by simp); rintro e w' ⟨rfl, v', hs1, hs2, hs3⟩; have sc1 := scellb hs3; have sc2 := hs3.size; simp only [drew_heap, World.size_alloc] at sc1 sc2; have H1 := Lib.hid hs1; have H2 := Lib.hid hs2; have H3 := Lib.hid hs3; clear hs1 hs2 hs3)
        all_goals
          go_wp2_with fail
          go_meet
          refine ⟨by rw [HX.out], v', ?_, ?_, ?_⟩
          · rw [← HADV.out]; exact H1.out.same (S := []) (by repeat (first | exact Same.refl _ _ | refine Same.drew ?_ | refine Same.alloc ?_ _)) (by simp)
          · rw [← HADV.out]; exact H2.out.same (S := []) (by repeat (first | exact Same.refl _ _ | refine Same.drew ?_ | refine Same.alloc ?_ _)) (by simp)
          · refine Same.trans (S := [b]) (T := [b]) ?_ (Same.trans_nil H3.out (by repeat (first | exact Same.refl _ _ | refine Same.drew ?_ | refine Same.alloc ?_ _))) (fun x hx _ => hx)
            repeat (first | exact Same.refl _ _ | refine Same.drew ?_ | refine Same.alloc ?_ _)
      obtain ⟨rfl, v', hst2, hls2, hsm2⟩ := hcut
      have HST2 := Lib.hid hst2; have HLS2 := Lib.hid hls2; have HSM2 := Lib.hid hsm2
      have HR := Lib.hid (fun W => repeat_int (184 - (X.size : Int)) (184 - X.size) (by omega) W (by omega))
      have hss := size_stuff (184 - X.size)
      have HFL := Lib.hid (show X ++ stuffOf (184 - X.size) = fillG X from rfl)
      have hbig3 : ¬ 9223372036854775807 < X.size + (184 - X.size) := by omega
      generalize stuffOf (184 - X.size) = sf at *
      clear hst2 hls2 hsm2 hc1 hsn hw2 hbig hbig2 HTK HST HLS c0 c1 f0 f1
      go_wp2_with fail
      (with_reducible refine (HR.out _).mono ?_)
      rintro e w3 ⟨rfl, s3⟩
      have HST3 := Lib.hid (HST2.out.same s3 (by simp)); have HLS3 := Lib.hid (HLS2.out.same s3 (by simp)); have HSM3 := Lib.hid (HSM2.out.trans_nil s3)
      clear s3
      go_wp2_with fail
      go_ret2
      refine ⟨?_, v', ?_, ?_, HSM3.out⟩
      · rw [HG.out, ← HX.out, ← HFL.out]; rfl
      · rw [HG.out]; exact HST3.out
      · rw [HG.out]; exact HLS3.out

end Go.Proofs.YtpkpfebhdgbgbaaGreatDoor.J
namespace Go.Proofs.YtpkpfebhdgbgbaaGreatDoor.J
open Go.RowKit
set_option linter.unusedSimpArgs false
set_option linter.unusedVariables false

def chkS (s : ByteArray) : Int :=
  if s.size < 3 then 10 else match needG s with
    | none => 12
    | some n => if s.size < n then 10 else if n < s.size then 11 else if byteOf s 0 = 255 then 12 else 0
theorem good_chk {s : ByteArray} (h : Good s) : chkS s = 0 := by
  have := h.size
  unfold chkS
  rw [if_neg (by omega), h.2]
  simp only
  rw [if_neg (by omega), if_neg (by omega), if_neg h.1]
theorem chk_good {s : ByteArray} (h : chkS s = 0) : Good s := by
  unfold chkS at h
  split at h
  · cases h
  · split at h
    · cases h
    · rename_i n hn
      split at h
      · cases h
      · split at h
        · cases h
        · split at h
          · cases h
          · rename_i h1 h2 h3
            exact ⟨h3, by rw [hn]; congr 1; omega⟩

def Need0 (w : World) (e : Ending) (w' : World) : Prop := e = .returned (.tuple #[.int .i64 0, .int .i64 10]) ∧ w = w'
theorem sneed_short (s : ByteArray) (w : World) (h : s.size < 3) : Calls Tryz.prog 100 #[.string s] w (Need0 w) := by
  have hj3 : (s.size : Int) < 3 := by omega
  go_enter Tryz.func100, Tryz.ntmps100
  go_wp2
  go_ret2
  exact ⟨rfl, rfl⟩
theorem first_is (s : ByteArray) (h : 0 < s.size) : s.extract 0 1 = ⟨#[UInt8.ofNat (byteOf s 0)]⟩ := by
  apply ByteArray.ext_getElem
  · rw [ByteArray.size_extract]; show min 1 s.size - 0 = 1; omega
  · intro i h1 h2
    have hi : i = 0 := by rw [ByteArray.size_extract] at h1; omega
    subst hi
    rw [ByteArray.getElem_extract]
    have := byteOf_at s 0 h
    show s[0 + 0] = UInt8.ofNat (byteOf s 0)
    rw [← this]; simp
theorem need_none {w w' : World} {s : ByteArray} {e : Ending} (h : NeedPost w s e w') (hn : needG s = none) : e = .returned (.tuple #[.int .i64 0, .int .i64 12]) ∧ Same [] w w' := by
  rcases h with ⟨⟨n, h1, _⟩ | ⟨_, h2⟩, h3⟩
  · rw [hn] at h1; cases h1
  · exact ⟨h2, h3⟩
theorem need_some {w w' : World} {s : ByteArray} {e : Ending} {n : Nat} (h : NeedPost w s e w') (hn : needG s = some n) : e = .returned (.tuple #[.int .i64 n, .int .i64 0]) ∧ Same [] w w' := by
  rcases h with ⟨⟨m, h1, h2⟩ | ⟨h1, _⟩, h3⟩
  · rw [hn] at h1; cases h1; exact ⟨h2, h3⟩
  · rw [hn] at h1; cases h1

set_option maxHeartbeats 1000000 in
theorem pkcheck_any (s : ByteArray) (w : World) (hs : s.size < 1099511627776) : Calls Tryz.prog 66 #[.string s] w (NumPost w (chkS s)) := by
  unfold chkS
  by_cases h3 : s.size < 3
  · rw [if_pos h3]
    have HN := Lib.hid (fun W => sneed_short s W h3)
    clear h3
    go_enter Tryz.func66, Tryz.ntmps66
    go_wp2_with fail
    (with_reducible refine (HN.out _).mono ?_)
    rintro e w1 ⟨rfl, rfl⟩
    go_wp2_with fail
    go_ret
    exact ⟨rfl, Same.refl _ _⟩
  · rw [if_neg h3]
    cases hn : needG s with
    | none =>
      have HN := Lib.hid (fun W => (sneed_any s W (by omega) hs).mono fun e w' h => need_none h hn)
      clear hn
      go_enter Tryz.func66, Tryz.ntmps66
      go_wp2_with fail
      (with_reducible refine (HN.out _).mono ?_)
      rintro e w1 ⟨rfl, s1⟩
      go_wp2_with fail
      go_ret
      exact ⟨rfl, s1⟩
    | some n =>
      have HN := Lib.hid (fun W => (sneed_any s W (by omega) hs).mono fun e w' h => need_some h hn)
      have hn12 := need_ge hn
      have hx := first_is s (by omega)
      have hcs : ((s.size : Int) < (n : Int) ∧ s.size < n) ∨ (¬ (s.size : Int) < (n : Int) ∧ ¬ s.size < n ∧ (n : Int) < (s.size : Int) ∧ n < s.size) ∨ (¬ (s.size : Int) < (n : Int) ∧ ¬ s.size < n ∧ ¬ (n : Int) < (s.size : Int) ∧ ¬ n < s.size) := by omega
      clear hn
      rcases hcs with ⟨g1, g2⟩ | ⟨g1, g2, g3, g4⟩ | ⟨g1, g2, g3, g4⟩
      · simp only; rw [if_pos g2]
        clear g2
        go_enter Tryz.func66, Tryz.ntmps66
        go_wp2_with fail
        (with_reducible refine (HN.out _).mono ?_)
        rintro e w1 ⟨rfl, s1⟩
        go_wp2_with fail
        go_ret
        exact ⟨rfl, s1⟩
      · simp only; rw [if_neg g2, if_pos g4]
        clear g2 g4
        go_enter Tryz.func66, Tryz.ntmps66
        go_wp2_with fail
        (with_reducible refine (HN.out _).mono ?_)
        rintro e w1 ⟨rfl, s1⟩
        go_wp2_with fail
        go_ret
        exact ⟨rfl, s1⟩
      · simp only; rw [if_neg g2, if_neg g4]
        clear g2 g4
        have hs1 : (1 : Int) ≤ (s.size : Int) := by omega
        by_cases h255 : byteOf s 0 = 255
        · rw [if_pos h255]
          rw [h255] at hx
          go_enter Tryz.func66, Tryz.ntmps66
          go_wp2_with fail
          (with_reducible refine (HN.out _).mono ?_)
          rintro e w1 ⟨rfl, s1⟩
          have S1 := Lib.hid s1
          clear s1
          go_wp2_with fail
          go_ret
          exact ⟨rfl, S1.out⟩
        · rw [if_neg h255]
          have hq : (UInt8.ofNat (byteOf s 0) == 255) = false := by
            rw [beq_eq_false_iff_ne]
            intro he
            have h9 := congrArg UInt8.toNat he
            have h8 := byteOf_lt s 0
            simp at h9
            omega
          go_enter Tryz.func66, Tryz.ntmps66
          go_wp2_with fail
          (with_reducible refine (HN.out _).mono ?_)
          rintro e w1 ⟨rfl, s1⟩
          have S1 := Lib.hid s1
          clear s1
          go_wp2_with fail
          go_ret
          exact ⟨rfl, S1.out⟩

end Go.Proofs.YtpkpfebhdgbgbaaGreatDoor.J
