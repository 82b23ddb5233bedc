/- The program's field of bytes: products, powers and inverses by its tables. Condition: the pointer leads to what New makes. Strings as polynomials: trimming, in the program and in the reference. Condition: the reach of a string. Slices of bytes that a call has made itself, and strings made of them. No condition. Rows of bytes that grow, and '[]byte(s)'. No condition but sizes. (Out of Br1, without the bits.) -/
import Derived.Test.YtpkpfebhdgbgbaaGreatDoorRf1
import Derived.Test.YtpkpfebhdgbgbaaGreatDoorPo1
import Derived.Test.YtpkpfebhdgbgbaaGreatDoorOpen
import Derived.ArgAppend
import Derived.Laws.IdiomStrings
namespace Go.Proofs.YtpkpfebhdgbgbaaGreatDoor
open Go.RowKit
set_option linter.unusedSimpArgs false
set_option linter.unusedVariables false

theorem FieldAt.exp {w : World} {g : Nat} (h : FieldAt w g) (k : Nat) (hk : k < 510) : w.cell? ⟨g, k, none⟩ = some (.int .u8 ((ex k).toNat : Int)) := by
  rw [cell_of h]; exact fieldC_exp k hk
theorem FieldAt.log {w : World} {g : Nat} (h : FieldAt w g) {a : UInt8} (ha : a ≠ 0) : w.cell? ⟨g, 510 + a.toNat, none⟩ = some (.int .i64 (lg a : Nat)) := by
  rw [cell_of h]; exact fieldC_log a ha
theorem u8_ne {a : UInt8} (h : a ≠ 0) : ((a.toNat : Int) == 0) = false := by
  have : a.toNat ≠ 0 := fun e => h (UInt8.toNat_inj.1 e)
  simp; omega
/-- A draw or more, and nothing else. -/
def Drawn (v : Value) (w : World) (e : Ending) (w' : World) : Prop := e = .returned v ∧ ∃ n, w' = w.drewN n

set_option maxHeartbeats 2000000 in
set_option maxRecDepth 100000 in
theorem fmul_any (g : Nat) (a b : UInt8) (w : World) (hf : FieldAt w g) :
    Calls Tryz.prog 108 #[.pointer (some ⟨g, 0, none⟩), .int .u8 (a.toNat : Int), .int .u8 (b.toNat : Int)] w fun e w' => e = .returned (.int .u8 ((gm a b).toNat : Int)) ∧ ∃ n, w' = w.drewN n := by
  by_cases ha : a = 0
  · subst ha
    rw [zero_gm, show (UInt8.toNat 0 : Nat) = 0 from rfl]
    clear hf
    go_enter Tryz.func108, Tryz.ntmps108
    go_wp2_with fail
    go_ret
    exact ⟨rfl, 0, rfl⟩
  · have ha1 := u8_ne ha
    have ha2 := a.toNat_lt
    by_cases hb : b = 0
    · subst hb
      rw [gm_zero, show (UInt8.toNat 0 : Nat) = 0 from rfl]
      clear hf ha
      go_enter Tryz.func108, Tryz.ntmps108
      go_wp2_with fail
      go_ret
      exact ⟨rfl, 0, rfl⟩
    · have hb1 := u8_ne hb
      have hb2 := b.toNat_lt
      have la := (lg_ex ha).1
      have lb := (lg_ex hb).1
      have ca := hf.log ha
      have cb := hf.log hb
      have cc := hf.exp (lg a + lg b) (by omega)
      rw [gm_tab a b ha hb] at cc
      have hw : IntKind.i64.wrap ((lg a : Int) + (lg b : Int)) = (lg a : Int) + (lg b : Int) := IntWalk.i64_in _ (by omega)
      have hn0 : (0 : Int) ≤ (lg a : Int) + (lg b : Int) := by omega
      have hn1 : (lg a : Int) + (lg b : Int) < 510 := by omega
      have hn : ((lg a : Int) + (lg b : Int)).toNat = lg a + lg b := by omega
      have ha3 : (a.toNat : Int) < 256 := by omega
      have hb3 : (b.toNat : Int) < 256 := by omega
      clear hf ha hb
      go_enter Tryz.func108, Tryz.ntmps108
      go_wp2_with fail
      go_quiet (fail)
      go_wp2_with fail
      go_ret
      exact ⟨rfl, _, rfl⟩
set_option maxHeartbeats 2000000 in
set_option maxRecDepth 100000 in
theorem finv_any (g : Nat) (a : UInt8) (w : World) (hf : FieldAt w g) :
    Calls Tryz.prog 117 #[.pointer (some ⟨g, 0, none⟩), .int .u8 (a.toNat : Int)] w fun e w' => e = .returned (.int .u8 ((inv a).toNat : Int)) ∧ ∃ n, w' = w.drewN n := by
  by_cases ha : a = 0
  · subst ha
    rw [show inv 0 = 0 from rfl, show (UInt8.toNat 0 : Nat) = 0 from rfl]
    clear hf
    go_enter Tryz.func117, Tryz.ntmps117
    go_wp2_with fail
    go_ret
    exact ⟨rfl, 0, rfl⟩
  · have ha1 := u8_ne ha
    have ha2 := a.toNat_lt
    have la := (lg_ex ha).1
    have ca := hf.log ha
    have cc := hf.exp (255 - lg a) (by omega)
    rw [show ex (255 - lg a) = inv a by unfold inv; rw [if_neg ha]] at cc
    have hw : IntKind.i64.wrap (255 - (lg a : Int)) = 255 - (lg a : Int) := IntWalk.i64_in _ (by omega)
    have hn0 : (0 : Int) ≤ 255 - (lg a : Int) := by omega
    have hn1 : 255 - (lg a : Int) < 510 := by omega
    have hn : (255 - (lg a : Int)).toNat = 255 - lg a := by omega
    have ha3 : (a.toNat : Int) < 256 := by omega
    clear hf ha
    go_enter Tryz.func117, Tryz.ntmps117
    go_wp2_with fail
    go_quiet (fail)
    go_wp2_with fail
    go_ret
    exact ⟨rfl, _, rfl⟩
set_option maxHeartbeats 2000000 in
set_option maxRecDepth 100000 in
theorem fexp_any (g n : Nat) (w : World) (hf : FieldAt w g) (hn : n < 1000000) :
    Calls Tryz.prog 112 #[.pointer (some ⟨g, 0, none⟩), .int .i64 (n : Int)] w fun e w' => e = .returned (.int .u8 ((ex n).toNat : Int)) ∧ w = w' := by
  have cc := hf.exp (n % 255) (by omega)
  rw [ex_mod] at cc
  have h1 : (((n : Int) % 255 + 255) % 255).toNat = n % 255 := by omega
  have h2 : ((n : Int) % 255 + 255) % 255 = ((n % 255 : Nat) : Int) := by omega
  clear hf
  go_enter Tryz.func112, Tryz.ntmps112
  go_wp2_with fail
  go_ret
  exact ⟨rfl, rfl⟩
end Go.Proofs.YtpkpfebhdgbgbaaGreatDoor
namespace Go.Proofs.YtpkpfebhdgbgbaaGreatDoor
open Go.RowKit
set_option linter.unusedSimpArgs false
set_option linter.unusedVariables false

/-- The bytes of a string. -/
def lb (s : ByteArray) : List UInt8 := s.data.toList
/-- The string of bytes. -/
def bs (l : List UInt8) : ByteArray := ⟨l.toArray⟩
theorem lb_bs (l : List UInt8) : lb (bs l) = l := rfl
theorem bs_lb (s : ByteArray) : bs (lb s) = s := ByteArray.ext (Array.toArray_toList)
theorem lb_length (s : ByteArray) : (lb s).length = s.size := by unfold lb; rw [Array.length_toList]; rfl
theorem size_bs (l : List UInt8) : (bs l).size = l.length := by simp [bs, ByteArray.size]
theorem lb_inj {a b : ByteArray} : lb a = lb b ↔ a = b := ⟨fun h => by rw [← bs_lb a, h, bs_lb], fun h => by rw [h]⟩
theorem bs_inj {a b : List UInt8} : bs a = bs b ↔ a = b := ⟨fun h => by rw [← lb_bs a, h, lb_bs], fun h => by rw [h]⟩
theorem bt_at (s : ByteArray) (i : Nat) (h : i < s.size) : (s[i]'h).toNat = (cf (lb s) i).toNat := by
  rw [cf_lt (by rw [lb_length]; exact h)]; rfl
theorem lb_extract (s : ByteArray) (a b : Nat) : lb (s.extract a b) = ((lb s).drop a).take (b - a) := by
  unfold lb
  rw [ByteArray.data_extract, Array.toList_extract]
theorem lb_prefix (s : ByteArray) (k : Nat) : lb (s.extract 0 k) = (lb s).take k := by rw [lb_extract]; simp
theorem lb_append (a b : ByteArray) : lb (a ++ b) = lb a ++ lb b := by unfold lb; rw [ByteArray.data_append, Array.toList_append]
def trimS (s : ByteArray) : ByteArray := bs (trimL (lb s))
theorem trimS_size (s : ByteArray) : (trimS s).size ≤ s.size := by
  unfold trimS; rw [size_bs, ← lb_length]; exact trim_length _
theorem trim_take {l : List UInt8} {k : Nat} (hk : k ≤ l.length) (hz : ∀ i, k ≤ i → cf l i = 0) (h : k = 0 ∨ cf l (k - 1) ≠ 0) : trimL l = l.take k := by
  have hc : cf (l.take k) = cf l := by
    funext i
    by_cases hi : i < k
    · rw [cf_lt (by simp; omega), cf_lt (by omega)]; simp
    · rw [cf_ge (by simp; omega), hz i (by omega)]
  rw [← trim_ext hc]
  refine trim_id ?_
  rcases h with h | h
  · left; subst h; simp
  · right; rw [hc, List.length_take, Nat.min_eq_left hk]; exact h
theorem extract_self (s : ByteArray) : s.extract 0 s.size = s := by rw [← lb_inj, lb_prefix, ← lb_length, List.take_length]
theorem trimS_extract {s : ByteArray} {k : Nat} (hk : k ≤ s.size) (hz : ∀ i, k ≤ i → cf (lb s) i = 0) (h : k = 0 ∨ cf (lb s) (k - 1) ≠ 0) : s.extract 0 k = trimS s := by
  rw [← lb_inj, lb_prefix]
  unfold trimS
  rw [lb_bs, trim_take (by rw [lb_length]; exact hk) hz h]
theorem extract_extract (s : ByteArray) (k m : Nat) (h : m ≤ k) : (s.extract 0 k).extract 0 m = s.extract 0 m := by
  rw [← lb_inj, lb_prefix, lb_prefix, lb_prefix, List.take_take, Nat.min_eq_left h]
theorem u8_zero {a : UInt8} (h : a = 0) : ((a.toNat : Int) == 0) = true := by subst h; rfl

set_option maxHeartbeats 1000000 in
theorem trimbyte_any (s : ByteArray) (w : World) (hs : s.size ≤ 9223372036854775807) :
    Calls Tryz.prog 148 #[.string s, .int .u8 0] w fun e w' => e = .returned (.string (trimS s)) ∧ w = w' := by
  go_enter Tryz.func148, Tryz.ntmps148
  go_wp2_with fail
  go_loop [0] (fun v => ∃ t : ByteArray, ∃ k : Nat, v = .string t ∧ t = s.extract 0 k ∧ k ≤ s.size ∧ ∀ i, k ≤ i → cf (lb s) i = 0) (fun v => match v with | .string t => t.size | _ => 0)
  case atStart => exact ⟨s, s.size, rfl, (extract_self s).symm, Nat.le_refl _, fun i hi => cf_ge (by rw [lb_length]; exact hi)⟩
  case round =>
    obtain ⟨t, k, rfl, ht, hk, hz⟩ := hrel
    have htk : t.size = k := by rw [ht, ByteArray.size_extract]; omega
    have HT := Lib.hid ht; have HZ := Lib.hid hz
    clear ht hz
    by_cases h0 : 0 < k
    · obtain ⟨m, rfl⟩ : ∃ m, k = m + 1 := ⟨k - 1, by omega⟩
      have hb := bt_at t m (by omega)
      have hc : cf (lb t) m = cf (lb s) m := by rw [HT.out, lb_prefix, cf_lt (by simp [lb_length]; omega), cf_lt (by rw [lb_length]; omega)]; simp
      rw [hc] at hb
      clear hc h0
      have hz1 : (0 : Int) < ((m + 1 : Nat) : Int) := by omega
      by_cases h1 : cf (lb s) m = 0
      · have h2 := u8_zero h1
        have H1 := Lib.hid h1
        clear h1
        go_wp2_with fail
        go_round
        case rel => exact ⟨_, m, rfl, by rw [HT.out]; exact extract_extract s (m + 1) m (by omega), by omega, fun i hi => by
          by_cases e : i = m
          · rw [e]; exact H1.out
          · exact HZ.out i (by omega)⟩
        case measure => show (t.extract 0 m).size < t.size; rw [ByteArray.size_extract]; omega
      · have h2 := u8_ne h1
        have H1 := Lib.hid h1
        clear h1
        go_wp2_with fail
        go_ret
        exact ⟨by rw [HT.out, trimS_extract (by omega) HZ.out (.inr (by rw [Nat.add_sub_cancel]; exact H1.out))]; rfl, rfl⟩
    · obtain rfl : k = 0 := by omega
      go_wp2_with fail
      go_ret
      exact ⟨by rw [HT.out, trimS_extract (by omega) HZ.out (.inl rfl)]; rfl, rfl⟩

theorem ne_empty (s : ByteArray) (h : ¬ s.size = 0) : s.toList.isEmpty = false ∧ (!s.toList.isEmpty) = true := by
  have : s.toList.isEmpty = false := by
    rw [ByteArray.toList_eq]
    have h1 : s.data.toList.length = s.size := by rw [Array.length_toList]; rfl
    cases hl : s.data.toList with
    | nil => rw [hl] at h1; simp at h1; omega
    | cons a l => rfl
  exact ⟨this, by rw [this]; rfl⟩
theorem is_empty (s : ByteArray) (h : s.size = 0) : s.toList.isEmpty = true ∧ (!s.toList.isEmpty) = false := by
  have : s.toList.isEmpty = true := by
    rw [ByteArray.toList_eq]
    have h1 : s.data.toList.length = s.size := by rw [Array.length_toList]; rfl
    cases hl : s.data.toList with
    | nil => rfl
    | cons a l => rw [hl] at h1; simp at h1; omega
  exact ⟨this, by rw [this]; rfl⟩
set_option maxRecDepth 20000 in
set_option maxHeartbeats 1000000 in
theorem trimright_any (s : ByteArray) (w : World) (hs : s.size ≤ 9223372036854775807) :
    Calls Tryz.prog 113 #[.string s, .string ⟨#[0]⟩] w fun e w' => e = .returned (.string (trimS s)) ∧ w = w' := by
  by_cases h : s.size = 0
  · have he : lb s = [] := List.eq_nil_of_length_eq_zero (by rw [lb_length, h])
    obtain rfl : s = ⟨#[]⟩ := lb_inj.1 he
    clear he h hs
    go_enter Tryz.func113, Tryz.ntmps113
    go_wp2_with fail
    go_ret
    exact ⟨rfl, rfl⟩
  · have h1 := (ne_empty s h).1
    have h0 : ((⟨#[(0 : UInt8)]⟩ : ByteArray)[0]'(by decide)).toNat = 0 := rfl
    go_enter Tryz.func113, Tryz.ntmps113
    go_wp2_with (first | (go_at_call 148; (with_reducible refine (trimbyte_any s _ hs).mono ?_); rintro e w' ⟨rfl, rfl⟩))
    go_ret
    exact ⟨rfl, rfl⟩

theorem trim_any (s : ByteArray) (w : World) (hs : s.size ≤ 9223372036854775807) :
    Calls Tryz.prog 82 #[.string s] w fun e w' => e = .returned (.string (trimS s)) ∧ w = w' := by
  go_enter Tryz.func82, Tryz.ntmps82
  go_wp2_with (first | (go_at_call 113; (with_reducible refine (trimright_any s _ hs).mono ?_); rintro e w' ⟨rfl, rfl⟩))
  go_ret
  exact ⟨rfl, rfl⟩
/-- The degree of a string. -/
def degS (s : ByteArray) : Int := (dl (lb s) : Int) - 1
theorem trimS_len (s : ByteArray) : (trimS s).size = dl (lb s) := by unfold trimS dl; rw [size_bs]
theorem degree_any (s : ByteArray) (w : World) (hs : s.size ≤ 9223372036854775807) :
    Calls Tryz.prog 87 #[.string s] w fun e w' => e = .returned (.int .i64 (degS s)) ∧ w = w' := by
  have h1 := trimS_len s
  have h2 : (trimS s).size ≤ 9223372036854775807 := Nat.le_trans (trimS_size s) hs
  go_enter Tryz.func87, Tryz.ntmps87
  go_wp2_with (first | (go_at_call 82; (with_reducible refine (trim_any s _ hs).mono ?_); rintro e w' ⟨rfl, rfl⟩))
  go_ret
  exact ⟨rfl, rfl⟩
end Go.Proofs.YtpkpfebhdgbgbaaGreatDoor
namespace Go.Proofs.YtpkpfebhdgbgbaaGreatDoor
open Go.RowKit
set_option linter.unusedSimpArgs false
set_option linter.unusedVariables false

def u8l (l : List UInt8) : List Value := l.map u8v
theorem u8l_length (l : List UInt8) : (u8l l).length = l.length := by simp [u8l]
theorem u8l_app (a b : List UInt8) : u8l (a ++ b) = u8l a ++ u8l b := by simp [u8l]
theorem u8l_nums (l : List UInt8) : u8l l = u8s (l.map UInt8.toNat) := by simp [u8l, u8s, u8v, Function.comp_def]
theorem strOf_nums (l : List UInt8) : strOf (l.map UInt8.toNat) = bs l := by
  unfold strOf bs
  rw [List.map_map]
  congr 1
  have : (UInt8.ofNat ∘ UInt8.toNat) = id := by funext a; simp
  rw [this, List.map_id]
/-- A slice of bytes of the call's own: from block B on. -/
def OwnB (B : Nat) (w : World) (v : Value) (l : List UInt8) : Prop := w.ownsRow B 5 1 v l.length (u8l l)
theorem OwnB.nil (B : Nat) (w : World) : OwnB B w (.slice none 0 0) [] := World.ownsRow_nil _ _ _ _
theorem OwnB.str {B : Nat} {w : World} {v : Value} {l : List UInt8} (h : OwnB B w v l) : (convert 33 9 v).run Tryz.prog w = .ok (.string (bs l)) w := by
  unfold OwnB at h
  rw [u8l_nums] at h
  have := own_string (P := Tryz.prog) (src := 33) (dst := 9) Tryz.underlying33 Tryz.underlying5 Tryz.underlying9 h
  rwa [strOf_nums] at this
/-- An append has been carried out. -/
theorem OwnB.grow {B : Nat} {w wr w2 : World} {v v' : Value} {l m : List UInt8} (ho : OwnB B wr v l) (hB : w.heap.size ≤ B) (hs : Same [] w wr)
    (hown : w2.ownsRow B 5 1 v' (l.length + m.length) (u8l l ++ u8l m)) (hg : wr.grownBy w2 v.ownBlock) : OwnB B w2 v' (l ++ m) ∧ Same [] w w2 := by
  refine ⟨?_, hs.trans (Same.of_grown hg) fun x hx hlt => ?_⟩
  · unfold OwnB; rw [List.length_append, u8l_app]; exact hown
  · have := (World.ownsRow.lt ho x (by simpa using hx)).1
    omega
theorem OwnB.alloc {B : Nat} {w : World} {v : Value} {l : List UInt8} (h : OwnB B w v l) (o : Obj) : OwnB B (w.alloc o) v l := World.ownsRow.alloc h o
theorem OwnB.drew {B : Nat} {w : World} {v : Value} {l : List UInt8} (h : OwnB B w v l) : OwnB B w.drew v l := h
theorem OwnB.lt {B : Nat} {w : World} {v : Value} {l : List UInt8} (h : OwnB B w v l) : ∀ k, v.ownBlock = some k → B ≤ k ∧ k < w.heap.size := World.ownsRow.lt h
theorem OwnB.same {B : Nat} {A C : World} {v : Value} {l : List UInt8} {S : List Nat} (h : OwnB B A v l) (hs : Same S A C) (hb : ∀ k, v.ownBlock = some k → k ∉ S) : OwnB B C v l := own_same h hs hb
theorem reads_one (wr : World) (x : UInt8) : Reads (wr.alloc (.cells #[.int .u8 (x.toNat : Int)] 5)) 1 (.slice (some ⟨wr.heap.size, 0, none⟩) 1 1) 1 (u8l [x]) :=
  Reads.of_own (row_new wr #[.int .u8 (x.toNat : Int)] 5 1 rfl (by decide))
theorem one_u8l (l : List UInt8) : ∀ u ∈ u8l l, u.oneCell' = true := by
  intro u hu
  simp only [u8l, List.mem_map] at hu
  obtain ⟨a, _, rfl⟩ := hu
  rfl
/-- Where its cells are. -/
structure CellsB (B : Nat) (w : World) (v : Value) (l : List UInt8) (g cap : Nat) (cur : Array Value) : Prop where
  val : v = .slice (some ⟨g, 0, none⟩) l.length cap
  base : B ≤ g
  heap : w.heap[g]? = some (.cells cur 5 (0, 0))
  len : l.length ≤ cap
  max : cap ≤ maxLen
  size : cur.size = cap
  take : cur.toList.take l.length = u8l l
theorem OwnB.cells {B : Nat} {w : World} {v : Value} {l : List UInt8} (h : OwnB B w v l) (hl : 0 < l.length) : ∃ g cap cur, CellsB B w v l g cap cur := by
  rcases h.2 with ⟨_, h0⟩ | ⟨g, cap, cur, rfl, hb, hg, hnc, hcm, hcs, ht⟩
  · omega
  · exact ⟨g, cap, cur, rfl, hb, hg, hnc, hcm, by omega, by simpa using ht⟩
theorem CellsB.own {B : Nat} {w : World} {v : Value} {l : List UInt8} {g cap : Nat} {cur : Array Value} (h : CellsB B w v l g cap cur) : OwnB B w v l :=
  ⟨by simp [u8l], .inr ⟨g, cap, cur, h.val, h.base, h.heap, h.len, h.max, by simp [h.size], by simpa using h.take⟩⟩
theorem CellsB.cell {B : Nat} {w : World} {v : Value} {l : List UInt8} {g cap : Nat} {cur : Array Value} (h : CellsB B w v l g cap cur) (i : Nat) (hi : i < l.length) :
    w.cell? ⟨g, i, none⟩ = some (.int .u8 ((cf l i).toNat : Int)) := by
  have h1 := congrArg (fun z => z[i]?) h.take
  simp only [List.getElem?_take] at h1
  rw [if_pos hi] at h1
  rw [cell_of h.heap, ← Array.getElem?_toList, h1]
  simp [u8l, u8v, hi, cf_lt hi]
theorem CellsB.set {B : Nat} {w : World} {v : Value} {l : List UInt8} {g cap : Nat} {cur : Array Value} (h : CellsB B w v l g cap cur) (i : Nat) (hi : i < l.length) (x : UInt8) :
    OwnB B (w.setCell ⟨g, i, none⟩ (.int .u8 (x.toNat : Int))) v (l.set i x) := by
  refine CellsB.own (g := g) (cap := cap) (cur := cur.setIfInBounds i (.int .u8 (x.toNat : Int))) ⟨?_, h.base, set_same h.heap _, ?_, h.max, by simp [h.size], ?_⟩
  · rw [List.length_set]; exact h.val
  · rw [List.length_set]; exact h.len
  · rw [List.length_set, Array.toList_setIfInBounds, List.take_set, h.take]
    simp [u8l, u8v]
theorem CellsB.drewN {B : Nat} {w : World} {v : Value} {l : List UInt8} {g cap : Nat} {cur : Array Value} (h : CellsB B w v l g cap cur) (n : Nat) : CellsB B (w.drewN n) v l g cap cur :=
  ⟨h.val, h.base, h.heap, h.len, h.max, h.size, h.take⟩
theorem Same.drewN {S : List Nat} {a b : World} (h : Same S a b) (n : Nat) : Same S a (b.drewN n) := ⟨h.os, h.tape, h.output, h.size, h.block⟩
theorem FieldAt.drew {w : World} {g : Nat} (h : FieldAt w g) : FieldAt w.drew g := h
theorem FieldAt.drewN {w : World} {g : Nat} (h : FieldAt w g) (n : Nat) : FieldAt (w.drewN n) g := h
theorem cf_set {l : List UInt8} {i : Nat} {x : UInt8} (hi : i < l.length) (j : Nat) : cf (l.set i x) j = if j = i then x else cf l j := by
  by_cases h : j = i
  · subst h; rw [if_pos rfl, cf_lt (by simpa using hi)]; simp
  · rw [if_neg h]
    by_cases hj : j < l.length
    · rw [cf_lt (by simpa using hj), cf_lt hj, List.getElem_set_ne (by omega)]
    · rw [cf_ge (by simpa using Nat.le_of_not_lt hj), cf_ge (by omega)]
theorem ext_cf {a b : List UInt8} (hl : a.length = b.length) (h : cf a = cf b) : a = b :=
  List.ext_getElem hl fun i h1 h2 => by have := congrFun h i; rwa [cf_lt h1, cf_lt h2] at this
theorem ofF_succ (n : Nat) (f : Nat → UInt8) : ofF (n + 1) f = ofF n f ++ [f n] := by unfold ofF; rw [List.range_succ, List.map_append]; rfl
theorem Tryz.infoB : (Tryz.prog.info? 5).map (fun i => (i.zero, i.size, i.bytes)) = some (some (.int .u8 0), 1, 1) := by kernel_rfl
def addS (a b : ByteArray) : ByteArray := bs (trimL (addL (lb a) (lb b)))
def mulS (a b : ByteArray) : ByteArray := bs (trimL (prodL (lb a) (lb b)))
theorem mulS_size (a b : ByteArray) : (mulS a b).size ≤ a.size + b.size := by
  unfold mulS; rw [size_bs, ← lb_length, ← lb_length, ← prodL_length]; exact trim_length _
theorem addS_size (a b : ByteArray) : (addS a b).size ≤ max a.size b.size := by
  unfold addS; rw [size_bs, ← lb_length, ← lb_length, ← addL_length]; exact trim_length _
end Go.Proofs.YtpkpfebhdgbgbaaGreatDoor
namespace Go.Proofs.YtpkpfebhdgbgbaaGreatDoor
open Go.RowKit
set_option linter.unusedSimpArgs false
set_option linter.unusedVariables false

/-- The slice v lies in block g, from its first cell on, reads ys, and all its cells may be written. -/
def RowF (w : World) (v : Value) (g : Nat) (ys : List Value) : Prop :=
  ∃ cap, v = .slice (some ⟨g, 0, none⟩) ys.length cap ∧ ys.length ≤ cap ∧ cap ≤ maxLen ∧ (∀ j u, ys[j]? = some u → w.cell? ⟨g, j, none⟩ = some u) ∧
    ∀ j, j < cap → (w.cell? ⟨g, j, none⟩).isSome = true ∧ w.frozen? ⟨g, j, none⟩ = false

theorem RowF.same {A B : World} {v : Value} {g : Nat} {ys : List Value} {S : List Nat} (h : RowF A v g ys) (hs : Same S A B) (hg : g ∉ S) : RowF B v g ys := by
  obtain ⟨cap, rfl, h1, h2, h3, h4⟩ := h
  refine ⟨cap, rfl, h1, h2, fun j u hj => hs.cell (h3 j u hj) hg, fun j hj => ?_⟩
  obtain ⟨c, hc⟩ := Option.isSome_iff_exists.1 (h4 j hj).1
  refine ⟨by rw [hs.cell hc hg]; rfl, ?_⟩
  rw [hs.frozen (World.block_lt_of_cell? A _ hc) hg]
  exact (h4 j hj).2
theorem rowF_of_own {w : World} {base e n : Nat} {v : Value} {ys : List Value} (h : w.ownsRow base e 1 v n ys) (h0 : ys ≠ []) : ∃ g, v.ownBlock = some g ∧ base ≤ g ∧ RowF w v g ys := by
  have hl : ys.length = n := by simpa using h.1
  rcases h.2 with ⟨_, h1⟩ | ⟨g, cap, cur, rfl, hb, hg, h1, h2, h3, h4⟩
  · exact absurd (List.eq_nil_of_length_eq_zero (by omega)) h0
  · refine ⟨g, rfl, hb, cap, by rw [hl], by omega, h2, fun j u hj => ?_, fun j hj => ?_⟩
    · rw [cell_of hg, ← Array.getElem?_toList]
      rw [← h4, List.getElem?_take] at hj
      split at hj
      · exact hj
      · cases hj
    · rw [cell_of hg, free_of hg]
      rw [Nat.mul_one] at h3
      exact ⟨by rw [Array.getElem?_eq_getElem (by omega)]; rfl, rfl⟩

section
variable {P : Program} {w : World}
theorem run_append_rowF (t ty e : TypeId) (i : TypeInfo) (z : Value) (ht : P.underlying t = some (.slice e)) (hi : P.info? e = some i) (hz : i.zero = some z)
    (hsize : i.size = 1) (hby : i.bytes = 1) (hzs : z.cells.size = 1) (v : Value) (g : Nat) (xs : List Value) (hown : RowF w v g xs)
    (ad : Addr) (c : Nat) (y : Value) (hr : w.cell? (ad.add 0) = some y) (h1 : y.oneCell' = true) (h63 : xs.length + 1 ≤ 140737488355328) :
    ∃ v' w' g', (Builtin.append_ #[t, t] ty #[v, .slice (some ad) 1 c]).run P w = .ok v' w' ∧ RowF w' v' g' (xs ++ [y]) ∧ Same [g] w w' ∧ (g' = g ∨ w.heap.size ≤ g') := by
  obtain ⟨cap, rfl, g1, g2, g3, g4⟩ := hown
  have hn : ∀ j u, [y][j]? = some u → w.cell? (ad.add j) = some u := fun j u hj => by
    have : j = 0 := by
      have := (List.getElem?_eq_some_iff.1 hj).1; simp at this; omega
    subst this
    simp at hj; subst hj; exact hr
  by_cases hroom : xs.length + 1 ≤ cap
  · have hrun := run_append_room_cells (P := P) w t ty e i ht hi g 0 xs.length cap ad 1 c [y] (by simp [hsize]) hn (by simpa using h1) hroom
      (fun j hj => by simp at hj; subst hj; simp [hsize]; exact (g4 xs.length (by omega)).1) (fun j hj => by simp at hj; subst hj; simp [hsize]; exact (g4 xs.length (by omega)).2)
    refine ⟨_, _, g, hrun, ⟨cap, by simp, by simpa using hroom, g2, ?_, ?_⟩, ?_, .inl rfl⟩
    · intro j u hj
      rw [hsize, Nat.zero_add, Nat.mul_one]
      by_cases hj1 : j < xs.length
      · rw [List.getElem?_append_left hj1] at hj
        rw [World.cell?_setCells_out g [y] xs.length w ⟨g, j, none⟩ (fun _ _ => .inl hj1)]
        exact g3 j u hj
      · have : j = xs.length := by
          have := (List.getElem?_eq_some_iff.1 hj).1; simp at this; omega
        subst this
        simp at hj; subst hj
        exact World.cell?_setCells_in g [y] xs.length w (fun j hj => by simp at hj; subst hj; exact (g4 xs.length (by omega)).1) 0 (by simp)
    · intro j hj
      rw [hsize, Nat.zero_add, Nat.mul_one, World.frozen?_setCells]
      refine ⟨?_, (g4 j hj).2⟩
      by_cases hj1 : j = xs.length
      · subst hj1
        rw [show w.setCells g xs.length [y] = w.setCells g xs.length [y] from rfl]
        have := World.cell?_setCells_in g [y] xs.length w (fun j hj => by simp at hj; subst hj; exact (g4 xs.length (by omega)).1) 0 (by simp)
        rw [Nat.add_zero] at this
        rw [this]; rfl
      · rw [World.cell?_setCells_out g [y] xs.length w ⟨g, j, none⟩ (fun _ _ => by simp; omega)]
        exact (g4 j hj).1
    · exact (Same.refl [g] w).setCell (by simp) _
  · obtain ⟨v', w', hrun, h2, h3⟩ := run_append_arg_grows (P := P) w t ty e i z 1 1 ht hi hz hsize hby hzs (by decide) ⟨g, 0, none⟩ xs.length cap xs (by simp) (fun j u hj => by rw [Addr.add_lit, Nat.zero_add]; exact g3 j u hj) ad 1 c [y] (by simp) hn (by omega) (by unfold maxLen; omega) (by omega)
    obtain ⟨g', _, hb, hrow⟩ := rowF_of_own h2 (by simp)
    exact ⟨v', w', g', hrun, hrow, (Same.of_grown h3).mono (fun x hx _ => by simp at hx), .inr hb⟩

theorem wpList_append_rowF {ops : Array Oper} {rest : List Oper} {o : Oper} {a : Act} {Q : Exit → Act → World → Prop} (hgd : o.guard = none) (s x : Operand) (t : TypeId)
    (ho : o.op = .call { callee := .builtin .append, args := #[s, x], argTypes := #[t, t] })
    (e : TypeId) (i : TypeInfo) (z : Value) (ht : P.underlying t = some (.slice e)) (hi : P.info? e = some i) (hz : i.zero = some z)
    (hsize : i.size = 1) (hby : i.bytes = 1) (hzs : z.cells.size = 1) (v : Value) (g : Nat) (xs : List Value) (hs : a.eval s = v) (hown : RowF w v g xs)
    (ad : Addr) (c : Nat) (y : Value) (hx : a.eval x = .slice (some ad) 1 c) (hr : w.cell? (ad.add 0) = some y) (h1 : y.oneCell' = true) (h63 : xs.length + 1 ≤ 140737488355328)
    (h : ∀ v' w' g', RowF w' v' g' (xs ++ [y]) → Same [g] w w' → (g' = g ∨ w.heap.size ≤ g') → wpList P ops Q rest (a.put o.dst v') w') :
    wpList P ops Q (o :: rest) a w := by
  refine wpList_plain hgd fun K hK => ?_
  obtain ⟨v', w', g', hrun, h2, h3, h5⟩ := run_append_rowF (P := P) t o.type e i z ht hi hz hsize hby hzs v g xs hown ad c y hr h1 h63
  unfold Oper.wp execOp
  simp only [ho, resolve, invoke, builtin, Sem.run_bind, Sem.run_pure, Result.andThen_ok, List.map_toArray, List.map_cons, List.map_nil, hs, hx, hrun]
  exact hK _ _ (h v' w' g' h2 h3 h5)
end

/-- '[]byte(s)': the value and the world. -/
noncomputable def cutV (W : World) (s : ByteArray) : Value := .slice (some ⟨W.heap.size, 0, none⟩) s.size (grownCap W s.size 0 5)
noncomputable def cutW (W : World) (s : ByteArray) : World := W.drew.alloc (.cells (bytesRow s (grownCap W s.size 0 5)) 5 ((bytesRow s (grownCap W s.size 0 5)).size, (bytesRow s (grownCap W s.size 0 5)).size + 1))
theorem run_cut (s : ByteArray) (W : World) : (convert 9 33 (.string s)).run Tryz.prog W = .ok (cutV W s) (cutW W s) :=
  run_bytes_of_string W _ _ _ s Tryz.underlying9 Tryz.underlying33 Tryz.underlying5
def natsOf (s : ByteArray) : List Nat := s.data.toList.map UInt8.toNat
theorem length_nats (s : ByteArray) : (natsOf s).length = s.size := by rw [natsOf, List.length_map, Array.length_toList]; rfl
theorem length_u8s (l : List Nat) : (u8s l).length = l.length := by rw [u8s, List.length_map]
/-- 'string(b)' of such a row. -/
theorem rowF_string {w : World} {v : Value} {g : Nat} {l : List Nat} (h : RowF w v g (u8s l)) : (convert 33 9 v).run Tryz.prog w = .ok (.string (strOf l)) w := by
  obtain ⟨cap, rfl, _, _, h3, _⟩ := h
  rw [length_u8s]
  rw [run_convert_bytes_arg w 33 5 Tryz.underlying33 Tryz.underlying5 g 0 l.length cap (l.map fun (n : Nat) => (n : Int)) (by simp) (fun i hi => ?_) 9 Tryz.underlying9]
  · simp [strOfNums, strOf, Function.comp_def]
  · rw [Nat.zero_add, h3 i (.int .u8 (l.getD i 0 : Nat))]
    · simp [List.getD_eq_getElem?_getD, List.getElem?_map, List.getElem?_eq_getElem hi]
    · simp [u8s, List.getD_eq_getElem?_getD, List.getElem?_map, List.getElem?_eq_getElem hi]
theorem cut_same (s : ByteArray) (W : World) : Same [] W (cutW W s) := (Same.refl [] W).drew.alloc _
theorem cut_row (s : ByteArray) (W : World) (hs : s.size ≤ maxLen) : RowF (cutW W s) (cutV W s) W.heap.size (u8s (natsOf s)) := by
  have hcap := grownCap_ge W s.size 0 5
  have hcm := grownCap_le_maxLen W s.size 0 5 hs
  have hh : (cutW W s).heap[W.heap.size]? = some (.cells (bytesRow s (grownCap W s.size 0 5)) 5 ((bytesRow s (grownCap W s.size 0 5)).size, (bytesRow s (grownCap W s.size 0 5)).size + 1)) := by
    show (W.heap.push _)[W.heap.size]? = _
    simp
  have hsz : (bytesRow s (grownCap W s.size 0 5)).size = grownCap W s.size 0 5 := by
    have h1 : s.data.size = s.size := rfl
    simp only [bytesRow, Array.size_append, Array.size_map, Array.size_replicate, h1]; omega
  generalize hcapd : grownCap W s.size 0 5 = cap at *
  refine ⟨cap, by unfold cutV; rw [length_u8s, length_nats, hcapd], by rw [length_u8s, length_nats]; exact hcap, hcm, fun j u hj => ?_, fun j hj => ?_⟩
  · rw [cell_of hh]
    have hj1 : j < s.data.size := by have := (List.getElem?_eq_some_iff.1 hj).1; rw [length_u8s, length_nats] at this; exact this
    unfold bytesRow
    rw [Array.getElem?_append_left (by simpa using hj1), ← hj]
    simp [u8s, natsOf, Function.comp_def]
  · constructor
    · rw [cell_of hh, Array.getElem?_eq_getElem (by omega)]; rfl
    · simp [World.frozen?, hh]; omega

theorem u8s_snoc (l : List Nat) (n : Nat) : u8s l ++ [Value.int .u8 n] = u8s (l ++ [n]) := by simp [u8s]
/-- The same, by bytes. -/
theorem nats_u8l (s : ByteArray) : u8s (natsOf s) = u8l (lb s) := by rw [u8l_nums]; rfl
theorem cut_rowl (s : ByteArray) (W : World) (hs : s.size ≤ maxLen) : RowF (cutW W s) (cutV W s) W.heap.size (u8l (lb s)) := by rw [← nats_u8l]; exact cut_row s W hs
theorem RowF.str {w : World} {v : Value} {g : Nat} {l : List UInt8} (h : RowF w v g (u8l l)) : (convert 33 9 v).run Tryz.prog w = .ok (.string (bs l)) w := by
  rw [u8l_nums] at h
  rw [rowF_string h, strOf_nums]
theorem RowF.cell {w : World} {v : Value} {g : Nat} {l : List UInt8} (h : RowF w v g (u8l l)) (i : Nat) (hi : i < l.length) : w.cell? ⟨g, i, none⟩ = some (.int .u8 ((cf l i).toNat : Int)) := by
  obtain ⟨cap, _, _, _, h3, _⟩ := h
  refine h3 i _ ?_
  simp [u8l, u8v, hi, cf_lt hi]

end Go.Proofs.YtpkpfebhdgbgbaaGreatDoor
