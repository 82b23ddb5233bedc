/- The programs' table: sealed, EncodePat where it may be. No condition but these. A section's bytes, exactly (section.Encode); psi.sealed, exactly. Conditions: the numbers are in their ranges, the body has up to 4084 bytes. The bytes of any table of programs (EncodePat), as a function. Condition: up to 1000 programs. -/
import Derived.Test.YtpkpfebhdgbgbaaGreatDoorTSTw
import Derived.Test.YtpkpfebhdgbgbaaGreatDoorTSSec
import Derived.Deep.RegionWith
import Derived.Test.YtpkpfebhdgbgbaaGreatDoorSCrc2
import Derived.Deep.DeepCutAuto
namespace Go.Proofs.YtpkpfebhdgbgbaaGreatDoor.S
open Go.RowKit
set_option linter.unusedSimpArgs false
set_option linter.unusedVariables false

theorem scell {W w1 : World} (hs : Same [] W w1) : (∀ b o, b < W.heap.size → w1.cell? ⟨b, o, none⟩ = W.cell? ⟨b, o, none⟩) ∧ (∀ b o, b < W.heap.size → w1.frozen? ⟨b, o, none⟩ = W.frozen? ⟨b, o, none⟩) :=
  ⟨fun b o h => World.cell?_of_block (hs.block b h (by simp)), fun b o h => hs.frozen (p := ⟨b, o, none⟩) h (by simp)⟩
theorem scell2 {W w1 : World} (hs : Same [] W w1) : ∀ (o : Obj) (b i : Nat), b < W.heap.size → (w1.alloc o).cell? ⟨b, i, none⟩ = W.cell? ⟨b, i, none⟩ :=
  fun o b i h => World.cell?_of_block ((Below.heap_alloc _ _ _ (Nat.lt_of_lt_of_le h hs.size)).trans (hs.block b h (by simp)))

/-- The section of a table. -/
def tabS (t e v : Int) (body : ByteArray) : ByteArray := strOf (pack (secBits t false e v true 0 0 body))
theorem size_tabS (t e v : Int) (body : ByteArray) : (tabS t e v body).size = 8 + body.size := by
  unfold tabS
  rw [size_strOf, length_pack, length_secBits]; omega

def SealedPost (w : World) (s : ByteArray) (e : Ending) (w' : World) : Prop :=
  (s.size + 4 ≤ 1024 ∧ ∃ c : ByteArray, c.size = 4 ∧ e = .returned (.tuple #[.string (s ++ c), .int .i64 0]) ∧ Same [] w w') ∨ (1024 < s.size + 4 ∧ e = .returned (.tuple #[.string ⟨#[]⟩, .int .i64 17]) ∧ Same [] w w')

set_option maxHeartbeats 1000000 in
theorem sealed_ok (t e v : Int) (body : ByteArray) (w : World) (h : SecOk t e v 0 0 body) :
    Calls Tryz.prog 48 #[.int .i64 t, .int .i64 e, .int .i64 v, .string body] w (SealedPost w (tabS t e v body)) := by
  have he : ∀ W, Calls Tryz.prog 93 #[.agg #[.int .i64 t, .bool false, .int .i64 e, .int .i64 v, .bool true, .int .i64 0, .int .i64 0, .string body]] W (SecPost W (tabS t e v body)) := fun W => sencode_ok t false e v true 0 0 body W h
  have hz := size_tabS t e v body
  have hb := h.b
  have HE := Lib.hid he
  generalize tabS t e v body = T at *
  clear he h
  go_enter Tryz.func48, Tryz.ntmps48
  go_wp2_with fail
  (with_reducible refine (HE.out _).mono ?_)
  rintro e w1 ⟨c, hc, he, hs⟩
  have hsz : (T ++ c).size = T.size + 4 := by rw [ByteArray.size_append, hc]
  obtain ⟨U, hU⟩ : ∃ U, U = T ++ c := ⟨_, rfl⟩
  rw [← hU] at he hsz
  subst he
  have HC := Lib.hid hc; have HS := Lib.hid hs; have HU := Lib.hid hU
  clear hc hs HE hU
  by_cases h1 : T.size + 4 ≤ 1024
  · have h2 : ¬ (1024 : Int) < (U.size : Int) := by omega
    have H1 := Lib.hid h1
    clear hsz hz hb h1
    go_wp2_with fail
    go_ret2
    exact .inl ⟨H1.out, c, HC.out, by rw [HU.out]; rfl, HS.out⟩
  · have h2 : (1024 : Int) < (U.size : Int) := by omega
    have H1 := Lib.hid h1
    clear hsz hz hb h1
    go_wp2_with fail
    go_ret2
    exact .inr ⟨by have := H1.out; omega, rfl, HS.out⟩

def patS (l : List (Int × Int)) : ByteArray := l.foldl (fun s p => s ++ (twoS p.1 ++ twoS (57344 + p.2))) ⟨#[]⟩
theorem patS_snoc (l : List (Int × Int)) (p : Int × Int) : patS (l ++ [p]) = patS l ++ (twoS p.1 ++ twoS (57344 + p.2)) := by simp [patS]
theorem size_patS_go : ∀ (l : List (Int × Int)) (s : ByteArray), (l.foldl (fun s p => s ++ (twoS p.1 ++ twoS (57344 + p.2))) s).size = s.size + 4 * l.length
  | [], s => by simp
  | p :: l, s => by
    rw [List.foldl_cons, size_patS_go l]
    simp only [ByteArray.size_append, size_twoS, List.length_cons]; omega
theorem size_patS (l : List (Int × Int)) : (patS l).size = 4 * l.length := by
  rw [patS, size_patS_go]
  show 0 + _ = _; omega

theorem or_pid (p : Int) (h0 : 0 ≤ p) (h1 : p ≤ 8191) : bits .or .i64 57344 p = 57344 + p := by
  obtain ⟨q, rfl⟩ : ∃ q : Nat, p = q := ⟨p.toNat, by omega⟩
  have hk : ∀ n : Int, 0 ≤ n → n < 2 ^ 16 → IntKind.i64.wrap n = n := fun n a b => by rw [IntKind.wrap_i64]; omega
  have := (bits_nat .i64 16 (by decide) hk 57344 q (by decide) (by omega)).2
  rw [show ((57344 : Nat) : Int) = 57344 from rfl] at this
  rw [this]
  have e : 57344 ||| q = 2 ^ 13 * 7 + q := by
    rw [← Nat.two_pow_add_eq_or_of_lt (by omega : q < 2 ^ 13) 7]
  rw [e]; omega

/-- A Pat that may be. -/
structure PatOk (st ve : Int) (ps : List (Int × Int)) : Prop where
  s0 : 0 ≤ st
  s1 : st ≤ 65535
  v0 : 0 ≤ ve
  v1 : ve ≤ 31
  p : ∀ x ∈ ps, (0 ≤ x.1 ∧ x.1 ≤ 65535) ∧ 0 ≤ x.2 ∧ x.2 ≤ 8191

set_option maxRecDepth 100000 in
set_option maxHeartbeats 4000000 in
theorem encodePat_ok (st ve : Int) (ps : List (Int × Int)) (g off c : Nat) (w : World) (hc : ProgsAt w g off ps) (hlc : ps.length ≤ c) (hok : PatOk st ve ps) (hn : ps.length ≤ 256) (hnd : (ps.map (·.1)).Nodup) :
    Calls Tryz.prog 14 #[.agg #[.int .i64 st, .int .i64 ve, .slice (some ⟨g, off, none⟩) ps.length c]] w (SealedPost w (tabS 0 st ve (patS ps))) := by
  have HC := Lib.hid hc; have HOK := Lib.hid hok; have HND := Lib.hid hnd
  have TB := Lib.hid (heap_alloc_new w (.cells #[.int .i64 st, .int .i64 ve, .slice (some ⟨g, off, none⟩) ps.length c] 50))
  have d0 : (decide (0 ≤ st) && decide (st ≤ 65535)) = true := by have := hok.s0; have := hok.s1; simp; omega
  have d1 : (decide (0 ≤ ve) && decide (ve ≤ 31)) = true := by have := hok.v0; have := hok.v1; simp; omega
  clear hc hok hnd
  go_enter Tryz.func14, Tryz.ntmps14
  go_wp2_with (go_at_call 43; (with_reducible refine (within_any _ _ _).mono ?_); rintro e w' ⟨rfl, rfl⟩; first | rw [d0] | rw [d1])
  obtain ⟨W1, hW1⟩ : ∃ W1, W1 = w.alloc (.cells #[.int .i64 st, .int .i64 ve, .slice (some ⟨g, off, none⟩) ps.length c] 50) := ⟨_, rfl⟩
  rw [← hW1] at TB ⊢
  have S1 := Lib.hid (show Same [] w W1 by rw [hW1]; exact (Same.refl [] w).alloc _)
  clear hW1
  go_loopw [19, 4, 5] (fun i r b wr => ∃ k : Nat, k ≤ ps.length ∧ i = .int .i64 k ∧ r = .bool true ∧ b = .string (patS (ps.take k)) ∧ Same [] W1 wr) (fun i _ _ _ => ps.length - (intOf i).toNat)
  case atStart => exact ⟨0, by omega, rfl, rfl, rfl, Same.refl _ _⟩
  case round =>
    obtain ⟨k, hk, rfl, rfl, rfl, hst⟩ := hrel
    by_cases hk1 : k < ps.length
    · have hk2 : (k : Int) < ps.length := by omega
      obtain ⟨e0, e1⟩ := HC.out k hk1
      have c0 := (S1.out.trans_nil hst).cell e0 (by simp)
      have c1 := (S1.out.trans_nil hst).cell e1 (by simp)
      obtain ⟨⟨q0, q1⟩, q2, q3⟩ := HOK.out.p ps[k] (List.getElem_mem hk1)
      have htk : patS (ps.take (k + 1)) = patS (ps.take k) ++ (twoS ps[k].1 ++ twoS (57344 + ps[k].2)) := by
        rw [List.take_add_one, List.getElem?_eq_getElem hk1]
        exact patS_snoc _ _
      have hz0 : (patS (ps.take k)).size ≤ 1024 := by rw [size_patS, List.length_take]; omega
      obtain ⟨x, hx⟩ : ∃ x, x = ps[k].1 := ⟨_, rfl⟩
      obtain ⟨y, hy⟩ : ∃ y, y = ps[k].2 := ⟨_, rfl⟩
      rw [← hx, ← hy] at htk
      rw [← hx] at c0 q0 q1
      rw [← hy] at c1 q2 q3
      clear e0 e1 hx hy
      generalize patS (ps.take k) = T at *
      have HTK := Lib.hid htk; have HST := Lib.hid hst
      have b0 : (decide (0 ≤ x) && decide (x ≤ 65535)) = true := by simp; omega
      have b1 : (decide (0 ≤ y) && decide (y ≤ 8191)) = true := by simp; omega
      have hor := or_pid y q2 q3
      clear htk hst
      go_upto_region 7 with (first
        | (go_at_call 43; (with_reducible refine (within_any _ _ _).mono ?_); rintro e w' ⟨rfl, rfl⟩; rw [b0])
        | (go_at_call 44; (with_reducible refine (pid_any _ _).mono ?_); rintro e w' ⟨rfl, rfl⟩; rw [b1]))
      have hb := heap_alloc_new wr (.cells #[.int .i64 x, .int .i64 y] 47)
      have hlt : wr.heap.size < (wr.alloc (.cells #[.int .i64 x, .int .i64 y] 47)).heap.size := by simp
      have HST2 := Lib.hid (HST.out.alloc (.cells #[.int .i64 x, .int .i64 y] 47))
      clear c0 c1 b0 b1
      obtain ⟨G, hG⟩ : ∃ G, G = wr.heap.size := ⟨_, rfl⟩
      rw [← hG] at hb hlt ⊢
      generalize wr.alloc (.cells #[.int .i64 x, .int .i64 y] 47) = wa at *
      clear hG
      have c0 := cell_of hb 0; have c1 := cell_of hb 1
      simp only [List.getElem?_toArray, List.getElem?_cons_zero, List.getElem?_cons_succ] at c0 c1
      clear hb
      have hsa : ∀ a b : ByteArray, (a ++ b).size = a.size + b.size := fun a b => ByteArray.size_append
      have hz1 := size_twoS x
      have hz2 := size_twoS (57344 + y)
      have HW := Lib.hid HST2.out.drew
      go_region_with (go_at_call 45; (with_reducible refine (two_any _ _).mono ?_); rintro e w' ⟨rfl, hs⟩; obtain ⟨sc1, sc2⟩ := scell hs; have hz := hs.size; (try simp only [drew_heap, World.size_alloc] at hz sc1 sc2); have HW := Lib.hid (HW.out.trans_nil hs); clear hs)
      all_goals go_wp2_with fail
      all_goals go_roundw
      any_goals (case rel => exact ⟨k + 1, by omega, by go_num, rfl, by rw [HTK.out], HW.out⟩)
      all_goals (simp [intOf]; omega)
    · have hk2 : ¬ (k : Int) < ps.length := by omega
      obtain rfl : k = ps.length := by omega
      rw [List.take_of_length_le (Nat.le_refl _)]
      have bx := hst.heap TB.out (by simp)
      have k0 := cell_of bx 0; have k1 := cell_of bx 1; have k2 := cell_of bx 2
      simp only [List.getElem?_toArray, List.getElem?_cons_zero, List.getElem?_cons_succ] at k0 k1 k2
      have hz := size_patS ps
      have hz4 : ¬ (1024 : Int) < ((patS ps).size : Int) := by omega
      have hsec : SecOk 0 st ve 0 0 (patS ps) := by
        obtain ⟨s0, s1, v0, v1, _⟩ := HOK.out
        exact ⟨by omega, by omega, s0, by omega, v0, by omega, by omega, by omega, by omega, by omega⟩
      have HS := Lib.hid (fun W => sealed_ok 0 st ve (patS ps) W hsec)
      have hc2 : ProgsAt wr g off ps := fun j hj => by
        obtain ⟨e0, e1⟩ := HC.out j hj
        exact ⟨(S1.out.trans_nil hst).cell e0 (by simp), (S1.out.trans_nil hst).cell e1 (by simp)⟩
      have HTW := Lib.hid (twice_pat ps g off c wr hc2 (by omega) hlc (fun p hp => by
        obtain ⟨⟨h0, h1⟩, _⟩ := HOK.out.p p hp
        exact WalkArith.wf_i64 (by omega)))
      have BX := Lib.hid bx; have HST := Lib.hid hst
      clear bx hst hz hsec hc2
      generalize patS ps = T at *
      go_wp2_with fail
      (with_reducible refine HTW.out.mono ?_)
      rintro e w2 ⟨rfl, s2⟩
      have bx := s2.heap BX.out (by simp)
      have hdn : (!decide (ps.map (·.1)).Nodup) = false := by simp [HND.out]
      rw [hdn]
      clear k0 k1 k2
      have k0 := cell_of bx 0; have k1 := cell_of bx 1; have k2 := cell_of bx 2
      simp only [List.getElem?_toArray, List.getElem?_cons_zero, List.getElem?_cons_succ] at k0 k1 k2
      have S3 := Lib.hid ((S1.out.trans_nil HST.out).trans_nil s2)
      clear bx s2 hdn
      go_wp2_with fail
      (with_reducible refine (HS.out _).mono ?_)
      rintro e w3 h
      rcases h with ⟨z1, cc, hcc, rfl, s3⟩ | ⟨z1, rfl, s3⟩
      · have Z := Lib.hid z1; have CC := Lib.hid hcc; have S4 := Lib.hid s3
        clear z1 hcc s3
        go_wp2_with fail
        go_ret2
        exact .inl ⟨Z.out, cc, CC.out, rfl, S3.out.trans_nil S4.out⟩
      · have Z := Lib.hid z1; have S4 := Lib.hid s3
        clear z1 s3
        go_wp2_with fail
        go_ret2
        exact .inr ⟨Z.out, rfl, S3.out.trans_nil S4.out⟩

end Go.Proofs.YtpkpfebhdgbgbaaGreatDoor.S
namespace Go.Proofs.YtpkpfebhdgbgbaaGreatDoor.S
open Go.RowKit
set_option linter.unusedSimpArgs false
set_option linter.unusedVariables false

set_option maxRecDepth 100000 in
set_option maxHeartbeats 4000000 in
theorem sencode_fn (t : Int) (p : Bool) (e v : Int) (nw : Bool) (nu la : Int) (body : ByteArray) (w : World) (h : SecOk t e v nu la body) :
    Calls Tryz.prog 93 #[.agg #[.int .i64 t, .bool p, .int .i64 e, .int .i64 v, .bool nw, .int .i64 nu, .int .i64 la, .string body]] w (Ret (.tuple #[.string (sealS (strOf (pack (secBits t p e v nw nu la body)))), .int .i64 0]) w) := by
  have HK := Lib.hid (fun W => scheck_ok t p e v nw nu la body W h)
  have TB := Lib.hid (heap_alloc_new w (.cells #[.int .i64 t, .bool p, .int .i64 e, .int .i64 v, .bool nw, .int .i64 nu, .int .i64 la, .string body] 124))
  obtain ⟨h0, h1, h2, h3, h4, h5, h6, h7, h8, h9⟩ := h
  go_enter Tryz.func93, Tryz.ntmps93
  go_wp2_with fail
  (with_reducible refine (HK.out _).mono ?_)
  rintro e w1 ⟨rfl, s1⟩
  have b1 := s1.heap TB.out (by simp)
  have c0 := cell_of b1 0; have c1 := cell_of b1 1; have c2 := cell_of b1 2; have c3 := cell_of b1 3; have c4 := cell_of b1 4; have c5 := cell_of b1 5; have c6 := cell_of b1 6; have c7 := cell_of b1 7
  simp only [List.getElem?_toArray, List.getElem?_cons_zero, List.getElem?_cons_succ] at c0 c1 c2 c3 c4 c5 c6 c7
  have S1 := Lib.hid (((Same.refl [] w).alloc _).trans_nil s1)
  have B1 := Lib.hid b1
  clear s1 b1 HK TB
  go_upto_region 5 with fail
  have os := isOut_new w1
  have b2 : (w1.alloc (.cells #[.slice none 0 0, .int .i64 0] 215)).heap[w.heap.size]? = some (.cells #[.int .i64 t, .bool p, .int .i64 e, .int .i64 v, .bool nw, .int .i64 nu, .int .i64 la, .string body] 124 (0, 0)) := (Below.heap_alloc _ _ _ (heap_lt B1.out)).trans B1.out
  have s2 := S1.out.alloc (.cells #[.slice none 0 0, .int .i64 0] 215)
  have hlt : w.heap.size < w1.heap.size := heap_lt B1.out
  clear c0 c1 c2 c3 c4 c5 c6 c7 B1 S1
  obtain ⟨B, hB⟩ : ∃ B, B = w1.heap.size := ⟨_, rfl⟩
  rw [← hB] at os hlt ⊢
  generalize (w1.alloc (.cells #[.slice none 0 0, .int .i64 0] 215)) = wb at *
  clear hB
  have c0 := cell_of b2 0; have c1 := cell_of b2 1; have c2 := cell_of b2 2; have c3 := cell_of b2 3; have c4 := cell_of b2 4; have c5 := cell_of b2 5; have c6 := cell_of b2 6; have c7 := cell_of b2 7
  simp only [List.getElem?_toArray, List.getElem?_cons_zero, List.getElem?_cons_succ] at c0 c1 c2 c3 c4 c5 c6 c7
  have B2 := Lib.hid b2; have S2 := Lib.hid s2; have OS := Lib.hid os
  clear b2 s2 os
  go_quiet ((go_at_call 123; exact Calls.quiet_of_same ((flag_any _ _).mono fun e w' ⟨x1, x2⟩ => ⟨x1, x2.symm⟩)))
  go_wp2_with fail
  have hp2 : p.toNat < 2 := Bool.toNat_lt p
  have hn2 : nw.toNat < 2 := Bool.toNat_lt nw
  have H0 := Lib.hid (OS.out.keep (show Same [] wb (wb.drewN nq) from ⟨rfl, rfl, rfl, Nat.le_refl _, fun _ _ _ => rfl⟩))
  clear OS c0 c1 c2 c3 c4 c5 c6 c7
  generalize wb.drewN nq = v0 at *
  refine wp_loop_rounds 12 ?_
  have f0 := field_0; have f1 := field_1; have f2 := field_2; have f3 := field_3; have f4 := field_4; have f5 := field_5; have f6 := field_6; have f7 := field_7; have f8 := field_8; have f9 := field_9; have f10 := field_10
  rw [rounds_succ]
  go_wp2_with fail
  (with_reducible refine Calls.mono (put_from wb B _ t 8 _ (H0.out.keep ((Same.refl [] v0).alloc _)) (by simp [length_bitsOf]) (by omega) (by omega) (by omega) (by omega)) ?_)
  rintro e v1 ⟨rfl, hx⟩
  have H1 := Lib.hid hx
  clear hx H0
  go_wp2_with fail
  rw [rounds_succ]
  go_wp2_with fail
  (with_reducible refine Calls.mono (put_from wb B _ 1 1 _ (H1.out.keep ((Same.refl [] v1).alloc _)) (by simp [length_bitsOf]) (by omega) (by omega) (by omega) (by omega)) ?_)
  rintro e v2 ⟨rfl, hx⟩
  have H2 := Lib.hid hx
  clear hx H1
  go_wp2_with fail
  rw [rounds_succ]
  go_wp2_with fail
  (with_reducible refine Calls.mono (put_from wb B _ (p.toNat : Int) 1 _ (H2.out.keep ((Same.refl [] v2).alloc _)) (by simp [length_bitsOf]) (by omega) (by omega) (by omega) (by omega)) ?_)
  rintro e v3 ⟨rfl, hx⟩
  have H3 := Lib.hid hx
  clear hx H2
  go_wp2_with fail
  rw [rounds_succ]
  go_wp2_with fail
  (with_reducible refine Calls.mono (put_from wb B _ 3 2 _ (H3.out.keep ((Same.refl [] v3).alloc _)) (by simp [length_bitsOf]) (by omega) (by omega) (by omega) (by omega)) ?_)
  rintro e v4 ⟨rfl, hx⟩
  have H4 := Lib.hid hx
  clear hx H3
  go_wp2_with fail
  rw [rounds_succ]
  go_wp2_with fail
  (with_reducible refine Calls.mono (put_from wb B _ ((body.size : Int) + 9) 12 _ (H4.out.keep ((Same.refl [] v4).alloc _)) (by simp [length_bitsOf]) (by omega) (by omega) (by omega) (by omega)) ?_)
  rintro e v5 ⟨rfl, hx⟩
  have H5 := Lib.hid hx
  clear hx H4
  go_wp2_with fail
  rw [rounds_succ]
  go_wp2_with fail
  (with_reducible refine Calls.mono (put_from wb B _ e 16 _ (H5.out.keep ((Same.refl [] v5).alloc _)) (by simp [length_bitsOf]) (by omega) (by omega) (by omega) (by omega)) ?_)
  rintro e v6 ⟨rfl, hx⟩
  have H6 := Lib.hid hx
  clear hx H5
  go_wp2_with fail
  rw [rounds_succ]
  go_wp2_with fail
  (with_reducible refine Calls.mono (put_from wb B _ 3 2 _ (H6.out.keep ((Same.refl [] v6).alloc _)) (by simp [length_bitsOf]) (by omega) (by omega) (by omega) (by omega)) ?_)
  rintro e v7 ⟨rfl, hx⟩
  have H7 := Lib.hid hx
  clear hx H6
  go_wp2_with fail
  rw [rounds_succ]
  go_wp2_with fail
  (with_reducible refine Calls.mono (put_from wb B _ v 5 _ (H7.out.keep ((Same.refl [] v7).alloc _)) (by simp [length_bitsOf]) (by omega) (by omega) (by omega) (by omega)) ?_)
  rintro e v8 ⟨rfl, hx⟩
  have H8 := Lib.hid hx
  clear hx H7
  go_wp2_with fail
  rw [rounds_succ]
  go_wp2_with fail
  (with_reducible refine Calls.mono (put_from wb B _ (nw.toNat : Int) 1 _ (H8.out.keep ((Same.refl [] v8).alloc _)) (by simp [length_bitsOf]) (by omega) (by omega) (by omega) (by omega)) ?_)
  rintro e v9 ⟨rfl, hx⟩
  have H9 := Lib.hid hx
  clear hx H8
  go_wp2_with fail
  rw [rounds_succ]
  go_wp2_with fail
  (with_reducible refine Calls.mono (put_from wb B _ nu 8 _ (H9.out.keep ((Same.refl [] v9).alloc _)) (by simp [length_bitsOf]) (by omega) (by omega) (by omega) (by omega)) ?_)
  rintro e v10 ⟨rfl, hx⟩
  have H10 := Lib.hid hx
  clear hx H9
  go_wp2_with fail
  rw [rounds_succ]
  go_wp2_with fail
  (with_reducible refine Calls.mono (put_from wb B _ la 8 _ (H10.out.keep ((Same.refl [] v10).alloc _)) (by simp [length_bitsOf]) (by omega) (by omega) (by omega) (by omega)) ?_)
  rintro e v11 ⟨rfl, hx⟩
  have H11 := Lib.hid hx
  clear hx H10
  go_wp2_with fail
  rw [rounds_succ]
  obtain ⟨r, ho, hs, hr⟩ := H11.out
  have c7 : v11.cell? ⟨w.heap.size, 7, none⟩ = some (.string body) := hs.cell ((cell_of B2.out 7).trans rfl) (by simp; omega)
  have S11 := Lib.hid (show Same [] w v11 from S2.out.trans hs (fun x hx hlt2 => by simp at hx; omega))
  have hrB : ∀ k, r = some k → k < v11.heap.size := ho.lt.2
  have hBl : B < v11.heap.size := ho.lt.1
  have tx : Calls Tryz.prog 125 #[.pointer (some ⟨B, 0, none⟩), .slice (some ⟨v11.heap.size, 0, none⟩) 1 1] (v11.alloc (.cells #[.string body] 9)) (TextPost (v11.alloc (.cells #[.string body] 9)) B r (secBits t p e v nw nu la body)) :=
    text_ok B r _ [body] v11.heap.size 0 1 _ (ho.same ((Same.refl [] v11).alloc _) (by simp) (by simp)) (by
      have : (ofStrs [body]).length = 8 * body.size := by simp [ofStrs, length_ofStr]
      rw [this]; simp [length_bitsOf]; omega) (fun k h => by
      have hk0 : k = 0 := by simpa using h
      subst hk0
      rw [cell_of (heap_alloc_new v11 _)]; rfl) (by omega) (fun h => by have := hrB _ h; omega) (by simp) (by simp)
  have TX := Lib.hid tx; have HR := Lib.hid hr; have HS := Lib.hid hs
  clear tx ho hs hr H11 f0 f1 f2 f3 f4 f5 f6 f7 f8 f9 f10
  go_wp2_with fail
  (with_reducible refine TX.out.mono ?_)
  rintro e v12 ⟨rfl, ht⟩
  obtain ⟨r2, ho2, hs2, hr2⟩ := ht
  have HO2 := Lib.hid ho2
  have S12 := Lib.hid (show Same [] w v12 from (S11.out.alloc _).trans hs2 (fun x hx hlt2 => by
    simp only [List.mem_cons, Option.mem_toList] at hx
    rcases hx with rfl | hx
    · have := S2.out.size; have := HS.out.size; omega
    · rcases HR.out x hx with h | h
      · cases h
      · have := S2.out.size; omega))
  clear ho2 hs2 hr2 TX HR HS hrB hBl c7
  go_wp2_with fail
  have hbl : (secBits t p e v nw nu la body).length = 64 + 8 * body.size := length_secBits t p e v nw nu la body
  have hsz : (strOf (pack (secBits t p e v nw nu la body))).size < 1099511627776 := by rw [size_strOf, length_pack, hbl]; omega
  have HT := Lib.hid (out_string B r2 _ v12 HO2.out (by rw [hbl]; omega))
  generalize strOf (pack (secBits t p e v nw nu la body)) = T at *
  have HZ := Lib.hid hsz
  clear hbl hsz HO2
  (with_reducible refine HT.out.mono ?_)
  rintro e v13 ⟨rfl, rfl⟩
  go_wp2_with fail
  (with_reducible refine (seal_fn T _ HZ.out).mono ?_)
  rintro e v14 ⟨rfl, hs⟩
  have HS := Lib.hid hs
  clear hs HT HZ
  go_wp2_with fail
  go_ret2
  exact ⟨rfl, S12.out.trans_nil HS.out⟩

theorem sealS_size (s : ByteArray) : (sealS s).size = s.size + 4 := by unfold sealS; rw [ByteArray.size_append, size_fourN]
/-- What sealed answers. -/
def tabF (t e v : Int) (body : ByteArray) : ByteArray × Int := if 12 + body.size ≤ 1024 then (sealS (tabS t e v body), 0) else (⟨#[]⟩, 17)
set_option maxHeartbeats 1000000 in
theorem sealed_fn (t e v : Int) (body : ByteArray) (w : World) (h : SecOk t e v 0 0 body) :
    Calls Tryz.prog 48 #[.int .i64 t, .int .i64 e, .int .i64 v, .string body] w (Ret (.tuple #[.string (tabF t e v body).1, .int .i64 (tabF t e v body).2]) w) := by
  have he : ∀ W, Calls Tryz.prog 93 #[.agg #[.int .i64 t, .bool false, .int .i64 e, .int .i64 v, .bool true, .int .i64 0, .int .i64 0, .string body]] W (Ret (.tuple #[.string (sealS (tabS t e v body)), .int .i64 0]) W) := fun W => sencode_fn t false e v true 0 0 body W h
  have hz : (sealS (tabS t e v body)).size = 12 + body.size := by rw [sealS_size, size_tabS]; omega
  unfold tabF
  obtain ⟨U, hU⟩ : ∃ U, U = sealS (tabS t e v body) := ⟨_, rfl⟩
  rw [← hU] at he hz ⊢
  have HE := Lib.hid he
  clear he h hU
  by_cases h1 : 12 + body.size ≤ 1024
  · rw [if_pos h1]
    have h2 : ¬ (1024 : Int) < (U.size : Int) := by omega
    clear hz h1
    go_enter Tryz.func48, Tryz.ntmps48
    go_wp2_with fail
    (with_reducible refine (HE.out _).mono ?_)
    rintro e w1 ⟨rfl, hs⟩
    have HS := Lib.hid hs
    clear hs
    go_wp2_with fail
    go_ret2
    exact ⟨rfl, HS.out⟩
  · rw [if_neg h1]
    have h2 : (1024 : Int) < (U.size : Int) := by omega
    clear hz h1
    go_enter Tryz.func48, Tryz.ntmps48
    go_wp2_with fail
    (with_reducible refine (HE.out _).mono ?_)
    rintro e w1 ⟨rfl, hs⟩
    have HS := Lib.hid hs
    clear hs
    go_wp2_with fail
    go_ret2
    exact ⟨rfl, HS.out⟩
end Go.Proofs.YtpkpfebhdgbgbaaGreatDoor.S
namespace Go.Proofs.YtpkpfebhdgbgbaaGreatDoor.S
open Go.RowKit
set_option linter.unusedSimpArgs false
set_option linter.unusedVariables false

def orP (p : Int) : Int := bits .or .i64 57344 p
def patB (l : List (Int × Int)) : ByteArray := l.foldl (fun s p => s ++ (twoS p.1 ++ twoS (orP p.2))) ⟨#[]⟩
theorem patB_snoc (l : List (Int × Int)) (p : Int × Int) : patB (l ++ [p]) = patB l ++ (twoS p.1 ++ twoS (orP p.2)) := by simp [patB]
theorem size_patB_go : ∀ (l : List (Int × Int)) (s : ByteArray), (l.foldl (fun s p => s ++ (twoS p.1 ++ twoS (orP p.2))) s).size = s.size + 4 * l.length
  | [], s => by simp
  | p :: l, s => by
    rw [List.foldl_cons, size_patB_go l]
    simp only [ByteArray.size_append, size_twoS, List.length_cons]; omega
theorem size_patB (l : List (Int × Int)) : (patB l).size = 4 * l.length := by
  rw [patB, size_patB_go]
  show 0 + _ = _; omega
def inB (n m : Int) : Bool := decide (0 ≤ n) && decide (n ≤ m)
def okP (p : Int × Int) : Bool := inB p.1 65535 && inB p.2 8191
def patR (st ve : Int) (ps : List (Int × Int)) : Bool := (inB st 65535 && inB ve 31) && ps.all okP
theorem patR_snoc (st ve : Int) (ps : List (Int × Int)) (p : Int × Int) : patR st ve (ps ++ [p]) = (patR st ve ps && okP p) := by
  unfold patR; rw [List.all_append]; simp [Bool.and_assoc]
/-- What EncodePat answers. -/
def encPat (st ve : Int) (ps : List (Int × Int)) : ByteArray × Int :=
  if patR st ve ps = false then (⟨#[]⟩, 15) else if ¬ (ps.map (·.1)).Nodup then (⟨#[]⟩, 12) else if 1024 < 4 * ps.length then (⟨#[]⟩, 17) else tabF 0 st ve (patB ps)
theorem inB_true {n m : Int} (h : inB n m = true) : 0 ≤ n ∧ n ≤ m := by unfold inB at h; simpa using h
set_option maxRecDepth 100000 in
set_option maxHeartbeats 8000000 in
theorem encodePat_fn (st ve : Int) (ps : List (Int × Int)) (v : Value) (w : World) (hc : ProgsV w v ps) (hn : ps.length ≤ 1000) :
    Calls Tryz.prog 14 #[.agg #[.int .i64 st, .int .i64 ve, v]] w (Ret (.tuple #[.string (encPat st ve ps).1, .int .i64 (encPat st ve ps).2]) w) := by
  have HPV := Lib.hid hc
  obtain ⟨ad, c, rfl, hlc, hc⟩ := hc
  have HC := Lib.hid hc
  have TB := Lib.hid (heap_alloc_new w (.cells #[.int .i64 st, .int .i64 ve, .slice ad ps.length c] 50))
  obtain ⟨zr, hzr⟩ : ∃ zr, zr = encPat st ve ps := ⟨_, rfl⟩
  obtain ⟨zs, ze⟩ := zr
  rw [← hzr]
  have HZ := Lib.hid hzr
  have hin : ∀ n m W, Calls Tryz.prog 43 #[.int .i64 n, .int .i64 m] W (fun e w' => e = .returned (.bool (inB n m)) ∧ W = w') := fun n m W => within_any n m W
  have hpd : ∀ n W, Calls Tryz.prog 44 #[.int .i64 n] W (fun e w' => e = .returned (.bool (inB n 8191)) ∧ W = w') := fun n W => pid_any n W
  have HIN := Lib.hid hin; have HPD := Lib.hid hpd
  clear hc hzr hin hpd
  go_enter Tryz.func14, Tryz.ntmps14
  go_upto_region 1 with fail
  obtain ⟨W1, hW1⟩ : ∃ W1, W1 = w.alloc (.cells #[.int .i64 st, .int .i64 ve, .slice ad ps.length c] 50) := ⟨_, rfl⟩
  obtain ⟨B, hB⟩ : ∃ B, B = w.heap.size := ⟨_, rfl⟩
  have S1 := Lib.hid (show Same [] w W1 by rw [hW1]; exact (Same.refl [] w).alloc _)
  rw [← hW1, ← hB] at TB
  rw [← hW1, ← hB]
  clear hW1 hB
  have k0 := cell_of TB.out 0; have k1 := cell_of TB.out 1; have k2 := cell_of TB.out 2
  simp only [List.getElem?_toArray, List.getElem?_cons_zero, List.getElem?_cons_succ] at k0 k1 k2
  go_cut [4] (fun s4 wx => s4 = .bool (inB st 65535 && inB ve 31) ∧ wx = W1)
  case first =>
    by_cases h1 : inB st 65535 = true
    · have h2 := h1
      go_wp2_with (go_at_call 43; first | ((with_reducible refine (HIN.out st 65535 _).mono ?_); rintro e w' ⟨rfl, rfl⟩; rw [h1]) | ((with_reducible refine (HIN.out ve 31 _).mono ?_); rintro e w' ⟨rfl, rfl⟩))
      go_meet
      exact ⟨by rw [h2]; rfl, rfl⟩
    · have h2 : inB st 65535 = false := by simpa using h1
      clear h1
      go_wp2_with (go_at_call 43; ((with_reducible refine (HIN.out st 65535 _).mono ?_); rintro e w' ⟨rfl, rfl⟩; rw [h2]))
      go_meet
      exact ⟨by rw [h2]; rfl, rfl⟩
  obtain ⟨rfl, rfl⟩ := hcut
  go_wp2_with fail
  clear k0 k1 k2
  go_loopw [19, 4, 5] (fun i r b wr => ∃ k : Nat, k ≤ ps.length ∧ i = .int .i64 k ∧ r = .bool (patR st ve (ps.take k)) ∧ b = .string (patB (ps.take k)) ∧ Same [] wc wr) (fun i _ _ _ => ps.length - (intOf i).toNat)
  case atStart => exact ⟨0, by omega, rfl, by unfold patR; simp, rfl, Same.refl _ _⟩
  case round =>
    obtain ⟨k, hk, rfl, hr, hb, hst⟩ := hrel
    by_cases hk1 : k < ps.length
    · have hk2 : (k : Int) < ps.length := by omega
      obtain ⟨a', rfl, hsp, e0, e1⟩ := HC.out k hk1
      obtain ⟨g, off, sp⟩ := a'
      simp only at hsp e0 e1
      subst hsp
      have c0 := (S1.out.trans_nil hst).cell e0 (by simp)
      have c1 := (S1.out.trans_nil hst).cell e1 (by simp)
      have htake : ps.take (k + 1) = ps.take k ++ [ps[k]] := List.take_succ_eq_append_getElem hk1
      have htk := patB_snoc (ps.take k) ps[k]
      have hrk := patR_snoc st ve (ps.take k) ps[k]
      rw [← htake] at htk hrk
      have hz0 : (patB (ps.take k)).size ≤ 4000 := by rw [size_patB, List.length_take]; omega
      obtain ⟨x, hx⟩ : ∃ x, x = ps[k].1 := ⟨_, rfl⟩
      obtain ⟨y, hy⟩ : ∃ y, y = ps[k].2 := ⟨_, rfl⟩
      have hok : okP ps[k] = (inB x 65535 && inB y 8191) := by rw [hx, hy]; rfl
      rw [hok] at hrk
      rw [← hx, ← hy] at htk
      rw [← hx] at c0
      rw [← hy] at c1
      clear e0 e1 hx hy hok htake
      obtain ⟨T, hT⟩ : ∃ T, T = patB (ps.take k) := ⟨_, rfl⟩
      obtain ⟨rb, hrb⟩ : ∃ rb, rb = patR st ve (ps.take k) := ⟨_, rfl⟩
      rw [← hT] at htk hz0 hb
      rw [← hrb] at hrk hr
      subst hr hb
      have HTK := Lib.hid htk; have HRK := Lib.hid hrk; have HST := Lib.hid hst
      clear htk hrk hst hT hrb
      go_upto_region 6 with fail
      have hb := heap_alloc_new wr (.cells #[.int .i64 x, .int .i64 y] 47)
      have hlt : wr.heap.size < (wr.alloc (.cells #[.int .i64 x, .int .i64 y] 47)).heap.size := by simp
      have HST2 := Lib.hid (HST.out.alloc (.cells #[.int .i64 x, .int .i64 y] 47))
      clear c0 c1
      obtain ⟨G, hG⟩ : ∃ G, G = wr.heap.size := ⟨_, rfl⟩
      rw [← hG] at hb hlt ⊢
      generalize wr.alloc (.cells #[.int .i64 x, .int .i64 y] 47) = wa at *
      clear hG
      have c0 := cell_of hb 0; have c1 := cell_of hb 1
      simp only [List.getElem?_toArray, List.getElem?_cons_zero, List.getElem?_cons_succ] at c0 c1
      clear hb
      go_cut [4] (fun s4 wx => s4 = .bool (rb && (inB x 65535 && inB y 8191)) ∧ wx = wa)
      case first =>
        cases rb with
        | false =>
          go_wp2_with fail
          go_meet
          exact ⟨rfl, rfl⟩
        | true =>
          by_cases h1 : inB x 65535 = true
          · have h2 := h1
            go_wp2_with (first
              | (go_at_call 43; (with_reducible refine (HIN.out x 65535 _).mono ?_); rintro e w' ⟨rfl, rfl⟩; rw [h1])
              | (go_at_call 44; (with_reducible refine (HPD.out y _).mono ?_); rintro e w' ⟨rfl, rfl⟩))
            go_meet
            exact ⟨by rw [h2]; rfl, rfl⟩
          · have h2 : inB x 65535 = false := by simpa using h1
            clear h1
            go_wp2_with (go_at_call 43; (with_reducible refine (HIN.out x 65535 _).mono ?_); rintro e w' ⟨rfl, rfl⟩; rw [h2])
            go_meet
            exact ⟨by rw [h2]; rfl, rfl⟩
      obtain ⟨rfl, rfl⟩ := hcut
      have hsa : ∀ a b : ByteArray, (a ++ b).size = a.size + b.size := fun a b => ByteArray.size_append
      have hz1 := size_twoS x
      have hor : bits .or .i64 57344 y = orP y := rfl
      have hz2 := size_twoS (orP y)
      have HW := Lib.hid HST2.out.drew
      go_upto_region 7 with fail
      go_region_with (go_at_call 45; (with_reducible refine (two_any _ _).mono ?_); rintro e w' ⟨rfl, hs⟩; obtain ⟨sc1, sc2⟩ := scell hs; have hz := hs.size; (try simp only [drew_heap, World.size_alloc] at hz sc1 sc2); have HW := Lib.hid (HW.out.trans_nil hs); clear hs)
      all_goals go_wp2_with fail
      all_goals go_roundw
      any_goals (case rel => exact ⟨k + 1, by omega, by go_num, by rw [HRK.out], by rw [HTK.out], HW.out⟩)
      all_goals (simp [intOf]; omega)
    · have hk2 : ¬ (k : Int) < ps.length := by omega
      obtain rfl : k = ps.length := by omega
      rw [List.take_of_length_le (Nat.le_refl _)] at hr hb
      have bx := hst.heap TB.out (by simp)
      have k0 := cell_of bx 0; have k1 := cell_of bx 1; have k2 := cell_of bx 2
      simp only [List.getElem?_toArray, List.getElem?_cons_zero, List.getElem?_cons_succ] at k0 k1 k2
      have hz := size_patB ps
      have hE := HZ.out
      unfold encPat at hE
      obtain ⟨T, hT⟩ : ∃ T, T = patB ps := ⟨_, rfl⟩
      rw [← hT] at hz hb hE
      obtain ⟨rb, hrb⟩ : ∃ rb, rb = patR st ve ps := ⟨_, rfl⟩
      rw [← hrb] at hr hE
      subst hr hb
      have BX := Lib.hid bx; have HST := Lib.hid hst
      cases rb with
      | false =>
        rw [if_pos rfl] at hE
        injection hE with hE1 hE2
        subst hE1 hE2
        clear bx hst hz hrb hT
        go_wp2_with fail
        go_ret2
        exact ⟨rfl, S1.out.trans_nil HST.out⟩
      | true =>
        rw [if_neg (by decide)] at hE
        have hall : (inB st 65535 && inB ve 31) = true ∧ ps.all okP = true := by
          have h := hrb.symm
          unfold patR at h
          simpa using h
        obtain ⟨hab, hps⟩ := hall
        rw [Bool.and_eq_true] at hab
        obtain ⟨s0, s1⟩ := inB_true hab.1
        obtain ⟨v0, v1⟩ := inB_true hab.2
        have HTW := Lib.hid (twice_progs ps _ wr (HPV.out.same (S1.out.trans_nil hst)) (by omega) (fun p hp => by
          have h := List.all_eq_true.1 hps p hp
          unfold okP at h
          rw [Bool.and_eq_true] at h
          have := inB_true h.1
          exact WalkArith.wf_i64 (by omega)))
        unfold TwicePost at HTW
        by_cases hnd : (ps.map (·.1)).Nodup
        · rw [if_neg (fun h => h hnd)] at hE
          have hdn : (!decide (ps.map (·.1)).Nodup) = false := by simp [hnd]
          rw [hdn] at HTW
          by_cases h4 : 1024 < 4 * ps.length
          · rw [if_pos h4] at hE
            injection hE with hE1 hE2
            subst hE1 hE2
            have h5 : (1024 : Int) < (T.size : Int) := by omega
            clear bx hst hz hrb hT hps hab hnd hdn h4
            go_wp2_with fail
            (with_reducible refine HTW.out.mono ?_)
            rintro e w2 ⟨rfl, s2⟩
            have S2 := Lib.hid ((S1.out.trans_nil HST.out).trans_nil s2)
            clear s2
            go_wp2_with fail
            go_ret2
            exact ⟨rfl, S2.out⟩
          · rw [if_neg h4] at hE
            have h5 : ¬ (1024 : Int) < (T.size : Int) := by omega
            have HS := Lib.hid (fun W => sealed_fn 0 st ve T W ⟨by omega, by omega, s0, by omega, v0, by omega, by omega, by omega, by omega, by omega⟩)
            rw [← hE] at HS
            clear bx hst hz hrb hT hps hab hnd hdn h4 hE
            go_wp2_with fail
            (with_reducible refine HTW.out.mono ?_)
            rintro e w2 ⟨rfl, s2⟩
            have bx := s2.heap BX.out (by simp)
            have S2 := Lib.hid ((S1.out.trans_nil HST.out).trans_nil s2)
            clear s2 k0 k1 k2
            have k0 := cell_of bx 0; have k1 := cell_of bx 1; have k2 := cell_of bx 2
            simp only [List.getElem?_toArray, List.getElem?_cons_zero, List.getElem?_cons_succ] at k0 k1 k2
            clear bx
            go_wp2_with fail
            (with_reducible refine (HS.out _).mono ?_)
            rintro e w3 ⟨rfl, s3⟩
            have S3 := Lib.hid (S2.out.trans_nil s3)
            clear s3
            go_wp2_with fail
            go_ret2
            exact ⟨rfl, S3.out⟩
        · rw [if_pos hnd] at hE
          injection hE with hE1 hE2
          subst hE1 hE2
          have hdn : (!decide (ps.map (·.1)).Nodup) = true := by simp [hnd]
          rw [hdn] at HTW
          clear bx hst hz hrb hT hps hab hnd hdn
          go_wp2_with fail
          (with_reducible refine HTW.out.mono ?_)
          rintro e w2 ⟨rfl, s2⟩
          have S2 := Lib.hid ((S1.out.trans_nil HST.out).trans_nil s2)
          clear s2
          go_wp2_with fail
          go_ret2
          exact ⟨rfl, S2.out⟩
end Go.Proofs.YtpkpfebhdgbgbaaGreatDoor.S
