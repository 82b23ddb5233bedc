/- The tables' small parts: within, pid, two, and twice: whether a key stands twice in a list. No condition but that a list is not too long. Whether a key stands twice in a list (twice), for any slice, of programs and of streams. No condition but that a list is not too long. -/
import Derived.Test.YtpkpfebhdgbgbaaGreatDoorOpen
import Derived.Maps.OwnOps
import Derived.Maps.OwnSet
import Derived.Maps.RangeWalk
namespace Go.Proofs.YtpkpfebhdgbgbaaGreatDoor.S
open Go.RowKit Go.Maps
set_option linter.unusedSimpArgs false
set_option linter.unusedVariables false

theorem within_any (n m : Int) (w : World) : Calls Tryz.prog 43 #[.int .i64 n, .int .i64 m] w fun e w' => e = .returned (.bool (decide (0 ≤ n) && decide (n ≤ m))) ∧ w = w' := by
  go_enter Tryz.func43, Tryz.ntmps43
  go_wp2
  all_goals go_ret
  all_goals exact ⟨ret_bool (by rw [Bool.eq_iff_iff]; simp <;> omega), rfl⟩
theorem pid_any (n : Int) (w : World) : Calls Tryz.prog 44 #[.int .i64 n] w fun e w' => e = .returned (.bool (decide (0 ≤ n) && decide (n ≤ 8191))) ∧ w = w' := by
  go_enter Tryz.func44, Tryz.ntmps44
  go_wp2_with (go_at_call 43; (with_reducible refine (within_any _ _ _).mono ?_); rintro e w' ⟨rfl, rfl⟩)
  go_ret
  exact ⟨rfl, rfl⟩

def twoS (n : Int) : ByteArray := strOf [(n / 256 % 256).toNat, (n % 256).toNat]
theorem size_twoS (n : Int) : (twoS n).size = 2 := size_strOf _
def StrPost (w : World) (s : ByteArray) (e : Ending) (w' : World) : Prop := e = .returned (.string s) ∧ Same [] w w'
theorem two_any (n : Int) (w : World) : Calls Tryz.prog 45 #[.int .i64 n] w (StrPost w (twoS n)) := by
  have hu : (#[.int .u8 (n / 256 % 256), .int .u8 (n % 256)] : Array Value).toList = u8s [(n / 256 % 256).toNat, (n % 256).toNat] := by
    simp [u8s]; omega
  have hrow := row_new w #[.int .u8 (n / 256 % 256), .int .u8 (n % 256)] 5 2 rfl (by decide)
  rw [hu] at hrow
  have hcv := own_string (P := Tryz.prog) (src := 33) (dst := 9) Tryz.underlying33 Tryz.underlying5 Tryz.underlying9 hrow
  have hz := size_twoS n
  change (convert 33 9 _).run Tryz.prog _ = .ok (.string (twoS n)) _ at hcv
  generalize twoS n = t at *
  clear hrow hu
  go_enter Tryz.func45, Tryz.ntmps45
  go_wp2
  go_ret
  exact ⟨rfl, (Same.refl _ w).alloc _⟩

theorem key_any (a b : Int) (w : World) : Calls Tryz.prog 47 #[.agg #[.int .i64 a, .int .i64 b]] w fun e w' => e = .returned (.int .i64 a) ∧ w.alloc (.cells #[.int .i64 a, .int .i64 b] 47) = w' := by
  go_enter Tryz.func47, Tryz.ntmps47
  go_wp2
  go_ret
  exact ⟨rfl, rfl⟩

theorem law_int : Keyed Tryz.prog 3 := int_keyed Tryz.underlying3
theorem zero_int (w : World) : (zeroValue 3).run Tryz.prog w = .ok (.int .i64 0) w := by kernel_rfl

theorem count_of_nodup : ∀ (l : List Int), l.Nodup → ∀ x, List.count x l ≤ 1
  | [], _, x => by simp
  | a :: l, h, x => by
    rw [List.nodup_cons] at h
    have := count_of_nodup l h.2 x
    rw [List.count_cons]
    by_cases e : a = x
    · subst e
      have := List.count_eq_zero.2 h.1
      simp; omega
    · have : (a == x) = false := by simpa using e
      rw [this]; simp; omega
theorem nodup_of_count : ∀ (l : List Int), (∀ x, List.count x l ≤ 1) → l.Nodup
  | [], _ => List.nodup_nil
  | a :: l, h => by
    rw [List.nodup_cons]
    refine ⟨fun hm => ?_, nodup_of_count l fun x => ?_⟩
    · have h1 := h a
      rw [List.count_cons_self] at h1
      have := List.count_pos_iff.2 hm
      omega
    · have := h x
      rw [List.count_cons] at this
      omega

/-- The map counts the keys of the list. -/
def Cnt (ks : List Int) (D : DataW Unit) : Prop := IsMap D ∧ ∀ x : Int, D.atKey (.int .i64 x) (.lit (.int .i64 0)) = .lit (.int .i64 (ks.count x : Int))
theorem Cnt.nil : Cnt [] (.map []) := ⟨isMap_empty, fun x => rfl⟩
theorem Cnt.snoc {ks : List Int} {D : DataW Unit} (h : Cnt ks D) (x : Int) : Cnt (ks ++ [x]) (D.put (.int .i64 x) (.lit (.int .i64 ((ks.count x : Int) + 1)))) := by
  refine ⟨h.1.put _ _, fun y => ?_⟩
  by_cases e : y = x
  · subst e
    rw [atKey_put_same h.1 (by trivial)]
    simp [List.count_append]
  · rw [atKey_put_other (by simpa using e), h.2 y]
    have : ¬ x = y := fun h => e h.symm
    simp [List.count_append, this]

/-- A slice of programs: their numbers, their Pids. -/
def ProgsAt (w : World) (g off : Nat) (ps : List (Int × Int)) : Prop := ∀ (k : Nat) (h : k < ps.length), w.cell? ⟨g, off + k * 2, none⟩ = some (.int .i64 ps[k].1) ∧ w.cell? ⟨g, off + k * 2 + 1, none⟩ = some (.int .i64 ps[k].2)

def TwicePost (w : World) (ks : List Int) (e : Ending) (w' : World) : Prop := e = .returned (.bool (!decide ks.Nodup)) ∧ Same [] w w'

set_option maxRecDepth 100000 in
set_option maxHeartbeats 2000000 in
theorem twice_pat (ps : List (Int × Int)) (g off c : Nat) (w : World) (hc : ProgsAt w g off ps) (hn : ps.length < 1099511627776) (hlc : ps.length ≤ c) (hwf : ∀ p ∈ ps, (Lit.int .i64 p.1).wf = true) :
    Calls Tryz.prog 46 #[.slice (some ⟨g, off, none⟩) ps.length c, .func (.func 47) #[] #[]] w (TwicePost w (ps.map (·.1))) := by
  have HC := Lib.hid hc; have HWF := Lib.hid hwf
  clear hc hwf
  have hmm := @run_makeMap Tryz.prog
  go_enter Tryz.func46, Tryz.ntmps46
  go_wp2_with fail
  go_loopw [13] (fun i wr => ∃ (k : Nat) (D : DataW Unit), k ≤ ps.length ∧ i = .int .i64 k ∧ wr.ownsMap Tryz.prog 3 (plainElem Tryz.prog 3) w.heap.size k D ∧ Cnt ((ps.map (·.1)).take k) D ∧ Same [] w wr) (fun i _ => ps.length - (intOf i).toNat)
  case atStart => exact ⟨0, _, by omega, rfl, World.ownsMap_made _ _ _ _, Cnt.nil, (Same.refl [] w).alloc _⟩
  case round =>
    obtain ⟨k, D, hk, rfl, hown, hcnt, hst⟩ := hrel
    by_cases hk1 : k < ps.length
    · have hk2 : (k : Int) < ps.length := by omega
      obtain ⟨e0, e1⟩ := HC.out k hk1
      have d0 := hst.cell e0 (by simp)
      have d1 := hst.cell e1 (by simp)
      have hkw := HWF.out ps[k] (List.getElem_mem hk1)
      have htk : (ps.map (·.1)).take (k + 1) = (ps.map (·.1)).take k ++ [ps[k].1] := by
        rw [List.take_add_one, List.getElem?_eq_getElem (by simpa using hk1)]; simp
      have hcl : List.count ps[k].1 ((ps.map (·.1)).take k) ≤ k := Nat.le_trans List.count_le_length (by simp; omega)
      obtain ⟨x, hx⟩ : ∃ x, x = ps[k].1 := ⟨_, rfl⟩
      obtain ⟨y, hy⟩ : ∃ y, y = ps[k].2 := ⟨_, rfl⟩
      rw [← hx] at d0 hkw htk hcl
      rw [← hy] at d1
      clear e0 e1 hx hy
      have HTK := Lib.hid htk
      clear htk
      obtain ⟨q, hq⟩ : ∃ q, q = List.count x ((ps.map (·.1)).take k) := ⟨_, rfl⟩
      have hstep := hcnt.snoc x
      have hat0 := hcnt.2 x
      rw [← hq] at hcl hstep hat0
      have HSTEP := Lib.hid hstep; have HST := Lib.hid hst
      clear hstep hst hcnt hq
      have hwr : IntKind.i64.wrap ((q : Int) + 1) = (q : Int) + 1 := IntWalk.i64_in _ (by omega)
      have hkey : keyOf Tryz.prog 3 (.int .i64 x) = some (.int .i64 x) := keyOf_int_mk Tryz.underlying3 hkw
      have hwq : (Lit.int .i64 ((q : Int) + 1)).wf = true := WalkArith.wf_i64 (by omega)
      go_wp2_with fail
      (with_reducible refine (key_any _ _ _).mono ?_)
      rintro e w1 ⟨rfl, rfl⟩
      have hown2 := (hown.alloc (.cells #[.int .i64 x, .int .i64 y] 47)).alloc (.cells #[.int .i64 x, .int .i64 y] 47)
      have HST2 := Lib.hid ((HST.out.alloc (.cells #[.int .i64 x, .int .i64 y] 47)).alloc (.cells #[.int .i64 x, .int .i64 y] 47))
      generalize ((wr.alloc (.cells #[.int .i64 x, .int .i64 y] 47)).alloc (.cells #[.int .i64 x, .int .i64 y] 47)) = w2 at *
      clear hown d0 d1
      go_wp2_with (first
        | (at_lookup; refine wpList_lookup_own_int _ rfl _ _ 175 rfl 3 3 .i64 law_int Tryz.underlying175 Tryz.underlying3 (zero_int _) w.heap.size k _ rfl hown2 _ _ rfl hkey ?_; intro c hat hwc; rw [hat0, DataW.lit.injEq, Lit.int.injEq] at hat; obtain ⟨_, rfl⟩ := hat)
        | (at_mapUpdate; refine wpList_mapUpdate_own _ rfl _ _ _ 175 rfl 3 3 law_int Tryz.underlying175 _ w.heap.size k _ rfl hown2 (by unfold maxLen; omega) _ _ _ rfl rfl hkey _ [] (plainElem_int Tryz.underlying3 hwq) ?_; intro w3 hown3 hgrow3)
        | go_in)
      go_roundw
      case rel => exact ⟨k + 1, _, by omega, by go_num, hown3, by rw [HTK.out]; exact HSTEP.out, HST2.out.grown hgrow3 (fun j hj h => by cases hj; omega)⟩
      case measure => simp [intOf]; omega
    · have hk2 : ¬ (k : Int) < ps.length := by omega
      obtain rfl : k = ps.length := by omega
      rw [List.take_of_length_le (by simp)] at hcnt
      have HCN := Lib.hid hcnt; have HST := Lib.hid hst
      clear hcnt hst
      go_wp2_with (first
        | (at_range; refine wpList_range_own _ rfl _ 175 rfl 3 3 law_int Tryz.underlying175 _ w.heap.size ps.length D rfl hown ?_; intro w0 hrg0 hg0 hs0)
        | go_in)
      obtain ⟨wo, rfl⟩ : ∃ wo : World, wo = wr := ⟨_, rfl⟩
      have hst0 : Same [] w w0 := HST.out.grown hg0 (fun j hj => by cases hj)
      go_loopw [9] (fun _ wx => ∃ left cnt, wx.ranges Tryz.prog 3 (plainElem Tryz.prog 3) w.heap.size wo.heap.size ps.length D left cnt ∧ (∀ x : Int, Maps.has D (.int .i64 x) = true → left (.int .i64 x) = false → List.count x (ps.map (·.1)) ≤ 1) ∧ Same [] w wx) (fun _ wx => wx.rangeLeft w.heap.size wo.heap.size)
      case atStart => exact ⟨_, _, hrg0, (fun x h1 h2 => by rw [h1] at h2; cases h2), hst0⟩
      case round =>
        obtain ⟨left, cnt, hrg, hall, hst⟩ := hrel
        have HALL := Lib.hid hall; have HST3 := Lib.hid hst
        clear hall hst
        go_wp2_with (first
          | (at_next; refine wpList_next_ranges_ii _ rfl _ rfl 3 3 .i64 .i64 law_int Tryz.underlying3 Tryz.underlying3 w.heap.size wo.heap.size ps.length D left cnt rfl hrg ?_ ?_)
          | go_in)
        · intro hc0 hl0
          have hnd : (ps.map (·.1)).Nodup := by
            refine nodup_of_count _ fun x => ?_
            cases hh : Maps.has D (.int .i64 x) with
            | true => exact HALL.out x hh (hl0 _)
            | false =>
              have h1 := atKey_of_not_has hh (.lit (.int .i64 0))
              rw [HCN.out.2 x, DataW.lit.injEq, Lit.int.injEq] at h1
              omega
          have HND := Lib.hid hnd
          clear hnd hrg
          go_wp2_with fail
          go_ret
          exact ⟨ret_bool (by simp [HND.out]), HST3.out⟩
        · intro x q w1 cnt1 hwx hwq hlx hat hrg1 hlt hg1 hs1 hen
          have h1 := hat (.lit (.int .i64 0))
          rw [HCN.out.2 x, DataW.lit.injEq, Lit.int.injEq] at h1
          obtain ⟨_, rfl⟩ := h1
          obtain ⟨q, hq⟩ : ∃ q, q = List.count x (ps.map (·.1)) := ⟨_, rfl⟩
          rw [← hq] at hen ⊢
          have HQ := Lib.hid hq
          have HST4 := Lib.hid (HST3.out.grown hg1 (fun j hj h => by cases hj; have := hst0.size; have := HST.out.size; omega))
          have HRG := Lib.hid hrg1
          have HL := Lib.hid (show w1.rangeLeft w.heap.size wo.heap.size < wr.rangeLeft w.heap.size wo.heap.size by rw [hrg1.left_eq, hrg.left_eq]; exact hlt)
          clear hq hat hrg1 hrg hg1 hs1 hlt hwx hwq hlx
          by_cases hgt : 1 < q
          · have hgt2 : (1 : Int) < (q : Int) := by omega
            go_wp2_with fail
            go_ret
            refine ⟨ret_bool ?_, HST4.out⟩
            have hnn : ¬ (ps.map (·.1)).Nodup := fun h => by
              have := count_of_nodup _ h x
              have := HQ.out
              omega
            simp [hnn]
          · have hgt2 : ¬ (1 : Int) < (q : Int) := by omega
            go_wp2_with fail
            go_roundw
            case rel =>
              refine ⟨_, _, HRG.out, ?_, HST4.out⟩
              intro y hy1 hy2
              by_cases e : y = x
              · subst e; have := HQ.out; omega
              · rw [Maps.sameKey_ne (by simpa using e)] at hy2
                exact HALL.out y hy1 (by simpa using hy2)
            case measure => exact HL.out

end Go.Proofs.YtpkpfebhdgbgbaaGreatDoor.S
namespace Go.Proofs.YtpkpfebhdgbgbaaGreatDoor.S
open Go.RowKit Go.Maps
set_option linter.unusedSimpArgs false
set_option linter.unusedVariables false

/-- A slice of programs, nil or not. -/
def ProgsV (w : World) (v : Value) (ps : List (Int × Int)) : Prop := ∃ ad c, v = .slice ad ps.length c ∧ ps.length ≤ c ∧ ∀ (k : Nat) (h : k < ps.length), ∃ a : Addr, ad = some a ∧ a.spot = none ∧
  w.cell? ⟨a.block, a.off + k * 2, none⟩ = some (.int .i64 ps[k].1) ∧ w.cell? ⟨a.block, a.off + k * 2 + 1, none⟩ = some (.int .i64 ps[k].2)
theorem ProgsV.same {A C : World} {v : Value} {l : List (Int × Int)} (h : ProgsV A v l) (hs : Same [] A C) : ProgsV C v l := by
  obtain ⟨ad, c, rfl, h1, h3⟩ := h
  exact ⟨ad, c, rfl, h1, fun i hi => by obtain ⟨a, ha, hsp, k0, k1⟩ := h3 i hi; exact ⟨a, ha, hsp, hs.cell k0 (by simp), hs.cell k1 (by simp)⟩⟩
/-- A stream: its kind, its Pid, its Info. -/
structure StrT where
  kind : Int
  pid : Int
  info : ByteArray
def StrsV (w : World) (v : Value) (ps : List StrT) : Prop := ∃ ad c, v = .slice ad ps.length c ∧ ps.length ≤ c ∧ ∀ (k : Nat) (h : k < ps.length), ∃ a : Addr, ad = some a ∧ a.spot = none ∧
  w.cell? ⟨a.block, a.off + k * 3, none⟩ = some (.int .i64 ps[k].kind) ∧ w.cell? ⟨a.block, a.off + k * 3 + 1, none⟩ = some (.int .i64 ps[k].pid) ∧ w.cell? ⟨a.block, a.off + k * 3 + 2, none⟩ = some (.string ps[k].info)
theorem StrsV.same {A C : World} {v : Value} {l : List StrT} (h : StrsV A v l) (hs : Same [] A C) : StrsV C v l := by
  obtain ⟨ad, c, rfl, h1, h3⟩ := h
  exact ⟨ad, c, rfl, h1, fun i hi => by obtain ⟨a, ha, hsp, k0, k1, k2⟩ := h3 i hi; exact ⟨a, ha, hsp, hs.cell k0 (by simp), hs.cell k1 (by simp), hs.cell k2 (by simp)⟩⟩
theorem key_pmt (x y : Int) (z : ByteArray) (w : World) : Calls Tryz.prog 50 #[.agg #[.int .i64 y, .int .i64 x, .string z]] w fun e w' => e = .returned (.int .i64 x) ∧ w.alloc (.cells #[.int .i64 y, .int .i64 x, .string z] 53) = w' := by
  go_enter Tryz.func50, Tryz.ntmps50
  go_wp2
  go_ret
  exact ⟨rfl, rfl⟩
set_option maxRecDepth 100000 in
set_option maxHeartbeats 2000000 in
theorem twice_progs (ps : List (Int × Int)) (v : Value) (w : World) (hc : ProgsV w v ps) (hn : ps.length < 1099511627776) (hwf : ∀ p ∈ ps, (Lit.int .i64 p.1).wf = true) :
    Calls Tryz.prog 46 #[v, .func (.func 47) #[] #[]] w (TwicePost w (ps.map (·.1))) := by
  obtain ⟨ad, c, rfl, hlc, hc⟩ := hc
  have HC := Lib.hid hc; have HWF := Lib.hid hwf
  clear hc hwf
  have hmm := @run_makeMap Tryz.prog
  go_enter Tryz.func46, Tryz.ntmps46
  go_wp2_with fail
  go_loopw [13] (fun i wr => ∃ (k : Nat) (D : DataW Unit), k ≤ ps.length ∧ i = .int .i64 k ∧ wr.ownsMap Tryz.prog 3 (plainElem Tryz.prog 3) w.heap.size k D ∧ Cnt ((ps.map (·.1)).take k) D ∧ Same [] w wr) (fun i _ => ps.length - (intOf i).toNat)
  case atStart => exact ⟨0, _, by omega, rfl, World.ownsMap_made _ _ _ _, Cnt.nil, (Same.refl [] w).alloc _⟩
  case round =>
    obtain ⟨k, D, hk, rfl, hown, hcnt, hst⟩ := hrel
    by_cases hk1 : k < ps.length
    · have hk2 : (k : Int) < ps.length := by omega
      obtain ⟨a', rfl, hsp, e0, e1⟩ := HC.out k hk1
      obtain ⟨g, off, sp⟩ := a'
      simp only at hsp e0 e1
      subst hsp
      have d0 := hst.cell e0 (by simp)
      have d1 := hst.cell e1 (by simp)
      have hkw := HWF.out ps[k] (List.getElem_mem hk1)
      have htk : (ps.map (·.1)).take (k + 1) = (ps.map (·.1)).take k ++ [ps[k].1] := by
        rw [List.take_add_one, List.getElem?_eq_getElem (by simpa using hk1)]; simp
      have hcl : List.count ps[k].1 ((ps.map (·.1)).take k) ≤ k := Nat.le_trans List.count_le_length (by simp; omega)
      obtain ⟨x, hx⟩ : ∃ x, x = ps[k].1 := ⟨_, rfl⟩
      obtain ⟨y, hy⟩ : ∃ y, y = ps[k].2 := ⟨_, rfl⟩
      rw [← hx] at d0 hkw htk hcl
      rw [← hy] at d1
      clear e0 e1 hx hy
      have HTK := Lib.hid htk
      clear htk
      obtain ⟨q, hq⟩ : ∃ q, q = List.count x ((ps.map (·.1)).take k) := ⟨_, rfl⟩
      have hstep := hcnt.snoc x
      have hat0 := hcnt.2 x
      rw [← hq] at hcl hstep hat0
      have HSTEP := Lib.hid hstep; have HST := Lib.hid hst
      clear hstep hst hcnt hq
      have hwr : IntKind.i64.wrap ((q : Int) + 1) = (q : Int) + 1 := IntWalk.i64_in _ (by omega)
      have hkey : keyOf Tryz.prog 3 (.int .i64 x) = some (.int .i64 x) := keyOf_int_mk Tryz.underlying3 hkw
      have hwq : (Lit.int .i64 ((q : Int) + 1)).wf = true := WalkArith.wf_i64 (by omega)
      go_wp2_with fail
      (with_reducible refine (key_any _ _ _).mono ?_)
      rintro e w1 ⟨rfl, rfl⟩
      have hown2 := (hown.alloc (.cells #[.int .i64 x, .int .i64 y] 47)).alloc (.cells #[.int .i64 x, .int .i64 y] 47)
      have HST2 := Lib.hid ((HST.out.alloc (.cells #[.int .i64 x, .int .i64 y] 47)).alloc (.cells #[.int .i64 x, .int .i64 y] 47))
      generalize ((wr.alloc (.cells #[.int .i64 x, .int .i64 y] 47)).alloc (.cells #[.int .i64 x, .int .i64 y] 47)) = w2 at *
      clear hown d0 d1
      go_wp2_with (first
        | (at_lookup; refine wpList_lookup_own_int _ rfl _ _ 175 rfl 3 3 .i64 law_int Tryz.underlying175 Tryz.underlying3 (zero_int _) w.heap.size k _ rfl hown2 _ _ rfl hkey ?_; intro c hat hwc; rw [hat0, DataW.lit.injEq, Lit.int.injEq] at hat; obtain ⟨_, rfl⟩ := hat)
        | (at_mapUpdate; refine wpList_mapUpdate_own _ rfl _ _ _ 175 rfl 3 3 law_int Tryz.underlying175 _ w.heap.size k _ rfl hown2 (by unfold maxLen; omega) _ _ _ rfl rfl hkey _ [] (plainElem_int Tryz.underlying3 hwq) ?_; intro w3 hown3 hgrow3)
        | go_in)
      go_roundw
      case rel => exact ⟨k + 1, _, by omega, by go_num, hown3, by rw [HTK.out]; exact HSTEP.out, HST2.out.grown hgrow3 (fun j hj h => by cases hj; omega)⟩
      case measure => simp [intOf]; omega
    · have hk2 : ¬ (k : Int) < ps.length := by omega
      obtain rfl : k = ps.length := by omega
      rw [List.take_of_length_le (by simp)] at hcnt
      have HCN := Lib.hid hcnt; have HST := Lib.hid hst
      clear hcnt hst
      go_wp2_with (first
        | (at_range; refine wpList_range_own _ rfl _ 175 rfl 3 3 law_int Tryz.underlying175 _ w.heap.size ps.length D rfl hown ?_; intro w0 hrg0 hg0 hs0)
        | go_in)
      obtain ⟨wo, rfl⟩ : ∃ wo : World, wo = wr := ⟨_, rfl⟩
      have hst0 : Same [] w w0 := HST.out.grown hg0 (fun j hj => by cases hj)
      go_loopw [9] (fun _ wx => ∃ left cnt, wx.ranges Tryz.prog 3 (plainElem Tryz.prog 3) w.heap.size wo.heap.size ps.length D left cnt ∧ (∀ x : Int, Maps.has D (.int .i64 x) = true → left (.int .i64 x) = false → List.count x (ps.map (·.1)) ≤ 1) ∧ Same [] w wx) (fun _ wx => wx.rangeLeft w.heap.size wo.heap.size)
      case atStart => exact ⟨_, _, hrg0, (fun x h1 h2 => by rw [h1] at h2; cases h2), hst0⟩
      case round =>
        obtain ⟨left, cnt, hrg, hall, hst⟩ := hrel
        have HALL := Lib.hid hall; have HST3 := Lib.hid hst
        clear hall hst
        go_wp2_with (first
          | (at_next; refine wpList_next_ranges_ii _ rfl _ rfl 3 3 .i64 .i64 law_int Tryz.underlying3 Tryz.underlying3 w.heap.size wo.heap.size ps.length D left cnt rfl hrg ?_ ?_)
          | go_in)
        · intro hc0 hl0
          have hnd : (ps.map (·.1)).Nodup := by
            refine nodup_of_count _ fun x => ?_
            cases hh : Maps.has D (.int .i64 x) with
            | true => exact HALL.out x hh (hl0 _)
            | false =>
              have h1 := atKey_of_not_has hh (.lit (.int .i64 0))
              rw [HCN.out.2 x, DataW.lit.injEq, Lit.int.injEq] at h1
              omega
          have HND := Lib.hid hnd
          clear hnd hrg
          go_wp2_with fail
          go_ret
          exact ⟨ret_bool (by simp [HND.out]), HST3.out⟩
        · intro x q w1 cnt1 hwx hwq hlx hat hrg1 hlt hg1 hs1 hen
          have h1 := hat (.lit (.int .i64 0))
          rw [HCN.out.2 x, DataW.lit.injEq, Lit.int.injEq] at h1
          obtain ⟨_, rfl⟩ := h1
          obtain ⟨q, hq⟩ : ∃ q, q = List.count x (ps.map (·.1)) := ⟨_, rfl⟩
          rw [← hq] at hen ⊢
          have HQ := Lib.hid hq
          have HST4 := Lib.hid (HST3.out.grown hg1 (fun j hj h => by cases hj; have := hst0.size; have := HST.out.size; omega))
          have HRG := Lib.hid hrg1
          have HL := Lib.hid (show w1.rangeLeft w.heap.size wo.heap.size < wr.rangeLeft w.heap.size wo.heap.size by rw [hrg1.left_eq, hrg.left_eq]; exact hlt)
          clear hq hat hrg1 hrg hg1 hs1 hlt hwx hwq hlx
          by_cases hgt : 1 < q
          · have hgt2 : (1 : Int) < (q : Int) := by omega
            go_wp2_with fail
            go_ret
            refine ⟨ret_bool ?_, HST4.out⟩
            have hnn : ¬ (ps.map (·.1)).Nodup := fun h => by
              have := count_of_nodup _ h x
              have := HQ.out
              omega
            simp [hnn]
          · have hgt2 : ¬ (1 : Int) < (q : Int) := by omega
            go_wp2_with fail
            go_roundw
            case rel =>
              refine ⟨_, _, HRG.out, ?_, HST4.out⟩
              intro y hy1 hy2
              by_cases e : y = x
              · subst e; have := HQ.out; omega
              · rw [Maps.sameKey_ne (by simpa using e)] at hy2
                exact HALL.out y hy1 (by simpa using hy2)
            case measure => exact HL.out
set_option maxRecDepth 100000 in
set_option maxHeartbeats 2000000 in
theorem twice_strs (ps : List StrT) (v : Value) (w : World) (hc : StrsV w v ps) (hn : ps.length < 1099511627776) (hwf : ∀ p ∈ ps, (Lit.int .i64 p.pid).wf = true) :
    Calls Tryz.prog 49 #[v, .func (.func 50) #[] #[]] w (TwicePost w (ps.map (·.pid))) := by
  obtain ⟨ad, c, rfl, hlc, hc⟩ := hc
  have HC := Lib.hid hc; have HWF := Lib.hid hwf
  clear hc hwf
  have hmm := @run_makeMap Tryz.prog
  go_enter Tryz.func49, Tryz.ntmps49
  go_wp2_with fail
  go_loopw [13] (fun i wr => ∃ (k : Nat) (D : DataW Unit), k ≤ ps.length ∧ i = .int .i64 k ∧ wr.ownsMap Tryz.prog 3 (plainElem Tryz.prog 3) w.heap.size k D ∧ Cnt ((ps.map (·.pid)).take k) D ∧ Same [] w wr) (fun i _ => ps.length - (intOf i).toNat)
  case atStart => exact ⟨0, _, by omega, rfl, World.ownsMap_made _ _ _ _, Cnt.nil, (Same.refl [] w).alloc _⟩
  case round =>
    obtain ⟨k, D, hk, rfl, hown, hcnt, hst⟩ := hrel
    by_cases hk1 : k < ps.length
    · have hk2 : (k : Int) < ps.length := by omega
      obtain ⟨a', rfl, hsp, e2, e0, e1⟩ := HC.out k hk1
      obtain ⟨g, off, sp⟩ := a'
      simp only at hsp e0 e1 e2
      subst hsp
      have d0 := hst.cell e0 (by simp)
      have d1 := hst.cell e1 (by simp)
      have d2 := hst.cell e2 (by simp)
      have hkw := HWF.out ps[k] (List.getElem_mem hk1)
      have htk : (ps.map (·.pid)).take (k + 1) = (ps.map (·.pid)).take k ++ [ps[k].pid] := by
        rw [List.take_add_one, List.getElem?_eq_getElem (by simpa using hk1)]; simp
      have hcl : List.count ps[k].pid ((ps.map (·.pid)).take k) ≤ k := Nat.le_trans List.count_le_length (by simp; omega)
      obtain ⟨x, hx⟩ : ∃ x, x = ps[k].pid := ⟨_, rfl⟩
      obtain ⟨y, hy⟩ : ∃ y, y = ps[k].kind := ⟨_, rfl⟩
      obtain ⟨z, hz⟩ : ∃ z, z = ps[k].info := ⟨_, rfl⟩
      rw [← hx] at d0 hkw htk hcl
      rw [← hy] at d2
      rw [← hz] at d1
      clear e0 e1 e2 hx hy hz
      have HTK := Lib.hid htk
      clear htk
      obtain ⟨q, hq⟩ : ∃ q, q = List.count x ((ps.map (·.pid)).take k) := ⟨_, rfl⟩
      have hstep := hcnt.snoc x
      have hat0 := hcnt.2 x
      rw [← hq] at hcl hstep hat0
      have HSTEP := Lib.hid hstep; have HST := Lib.hid hst
      clear hstep hst hcnt hq
      have hwr : IntKind.i64.wrap ((q : Int) + 1) = (q : Int) + 1 := IntWalk.i64_in _ (by omega)
      have hkey : keyOf Tryz.prog 3 (.int .i64 x) = some (.int .i64 x) := keyOf_int_mk Tryz.underlying3 hkw
      have hwq : (Lit.int .i64 ((q : Int) + 1)).wf = true := WalkArith.wf_i64 (by omega)
      go_wp2_with fail
      (with_reducible refine (key_pmt _ _ _ _).mono ?_)
      rintro e w1 ⟨rfl, rfl⟩
      have hown2 := (hown.alloc (.cells #[.int .i64 y, .int .i64 x, .string z] 53)).alloc (.cells #[.int .i64 y, .int .i64 x, .string z] 53)
      have HST2 := Lib.hid ((HST.out.alloc (.cells #[.int .i64 y, .int .i64 x, .string z] 53)).alloc (.cells #[.int .i64 y, .int .i64 x, .string z] 53))
      generalize ((wr.alloc (.cells #[.int .i64 y, .int .i64 x, .string z] 53)).alloc (.cells #[.int .i64 y, .int .i64 x, .string z] 53)) = w2 at *
      clear hown d0 d1 d2
      go_wp2_with (first
        | (at_lookup; refine wpList_lookup_own_int _ rfl _ _ 175 rfl 3 3 .i64 law_int Tryz.underlying175 Tryz.underlying3 (zero_int _) w.heap.size k _ rfl hown2 _ _ rfl hkey ?_; intro c hat hwc; rw [hat0, DataW.lit.injEq, Lit.int.injEq] at hat; obtain ⟨_, rfl⟩ := hat)
        | (at_mapUpdate; refine wpList_mapUpdate_own _ rfl _ _ _ 175 rfl 3 3 law_int Tryz.underlying175 _ w.heap.size k _ rfl hown2 (by unfold maxLen; omega) _ _ _ rfl rfl hkey _ [] (plainElem_int Tryz.underlying3 hwq) ?_; intro w3 hown3 hgrow3)
        | go_in)
      go_roundw
      case rel => exact ⟨k + 1, _, by omega, by go_num, hown3, by rw [HTK.out]; exact HSTEP.out, HST2.out.grown hgrow3 (fun j hj h => by cases hj; omega)⟩
      case measure => simp [intOf]; omega
    · have hk2 : ¬ (k : Int) < ps.length := by omega
      obtain rfl : k = ps.length := by omega
      rw [List.take_of_length_le (by simp)] at hcnt
      have HCN := Lib.hid hcnt; have HST := Lib.hid hst
      clear hcnt hst
      go_wp2_with (first
        | (at_range; refine wpList_range_own _ rfl _ 175 rfl 3 3 law_int Tryz.underlying175 _ w.heap.size ps.length D rfl hown ?_; intro w0 hrg0 hg0 hs0)
        | go_in)
      obtain ⟨wo, rfl⟩ : ∃ wo : World, wo = wr := ⟨_, rfl⟩
      have hst0 : Same [] w w0 := HST.out.grown hg0 (fun j hj => by cases hj)
      go_loopw [9] (fun _ wx => ∃ left cnt, wx.ranges Tryz.prog 3 (plainElem Tryz.prog 3) w.heap.size wo.heap.size ps.length D left cnt ∧ (∀ x : Int, Maps.has D (.int .i64 x) = true → left (.int .i64 x) = false → List.count x (ps.map (·.pid)) ≤ 1) ∧ Same [] w wx) (fun _ wx => wx.rangeLeft w.heap.size wo.heap.size)
      case atStart => exact ⟨_, _, hrg0, (fun x h1 h2 => by rw [h1] at h2; cases h2), hst0⟩
      case round =>
        obtain ⟨left, cnt, hrg, hall, hst⟩ := hrel
        have HALL := Lib.hid hall; have HST3 := Lib.hid hst
        clear hall hst
        go_wp2_with (first
          | (at_next; refine wpList_next_ranges_ii _ rfl _ rfl 3 3 .i64 .i64 law_int Tryz.underlying3 Tryz.underlying3 w.heap.size wo.heap.size ps.length D left cnt rfl hrg ?_ ?_)
          | go_in)
        · intro hc0 hl0
          have hnd : (ps.map (·.pid)).Nodup := by
            refine nodup_of_count _ fun x => ?_
            cases hh : Maps.has D (.int .i64 x) with
            | true => exact HALL.out x hh (hl0 _)
            | false =>
              have h1 := atKey_of_not_has hh (.lit (.int .i64 0))
              rw [HCN.out.2 x, DataW.lit.injEq, Lit.int.injEq] at h1
              omega
          have HND := Lib.hid hnd
          clear hnd hrg
          go_wp2_with fail
          go_ret
          exact ⟨ret_bool (by simp [HND.out]), HST3.out⟩
        · intro x q w1 cnt1 hwx hwq hlx hat hrg1 hlt hg1 hs1 hen
          have h1 := hat (.lit (.int .i64 0))
          rw [HCN.out.2 x, DataW.lit.injEq, Lit.int.injEq] at h1
          obtain ⟨_, rfl⟩ := h1
          obtain ⟨q, hq⟩ : ∃ q, q = List.count x (ps.map (·.pid)) := ⟨_, rfl⟩
          rw [← hq] at hen ⊢
          have HQ := Lib.hid hq
          have HST4 := Lib.hid (HST3.out.grown hg1 (fun j hj h => by cases hj; have := hst0.size; have := HST.out.size; omega))
          have HRG := Lib.hid hrg1
          have HL := Lib.hid (show w1.rangeLeft w.heap.size wo.heap.size < wr.rangeLeft w.heap.size wo.heap.size by rw [hrg1.left_eq, hrg.left_eq]; exact hlt)
          clear hq hat hrg1 hrg hg1 hs1 hlt hwx hwq hlx
          by_cases hgt : 1 < q
          · have hgt2 : (1 : Int) < (q : Int) := by omega
            go_wp2_with fail
            go_ret
            refine ⟨ret_bool ?_, HST4.out⟩
            have hnn : ¬ (ps.map (·.pid)).Nodup := fun h => by
              have := count_of_nodup _ h x
              have := HQ.out
              omega
            simp [hnn]
          · have hgt2 : ¬ (1 : Int) < (q : Int) := by omega
            go_wp2_with fail
            go_roundw
            case rel =>
              refine ⟨_, _, HRG.out, ?_, HST4.out⟩
              intro y hy1 hy2
              by_cases e : y = x
              · subst e; have := HQ.out; omega
              · rw [Maps.sameKey_ne (by simpa using e)] at hy2
                exact HALL.out y hy1 (by simpa using hy2)
            case measure => exact HL.out
end Go.Proofs.YtpkpfebhdgbgbaaGreatDoor.S
