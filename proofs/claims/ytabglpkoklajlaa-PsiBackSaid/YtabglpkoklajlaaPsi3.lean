/- The programs' table: sealed, EncodePat where it may be. No condition but these. -/
import Derived.Test.YtabglpkoklajlaaPsi2
import Derived.Test.YtabglpkoklajlaaSec
import Derived.Deep.RegionWith
namespace Go.Proofs.Ytabglpkoklajlaa
open Go.RowKit
set_option linter.unusedSimpArgs false
set_option linter.unusedVariables false

theorem scell {W w1 : World} (hs : Same [] W w1) : (∀ b o, b < W.heap.size → w1.cell? ⟨b, o, none⟩ = W.cell? ⟨b, o, none⟩) ∧ (∀ b o, b < W.heap.size → w1.frozen? ⟨b, o, none⟩ = W.frozen? ⟨b, o, none⟩) :=
  ⟨fun b o h => World.cell?_of_block (hs.block b h (by simp)), fun b o h => hs.frozen (p := ⟨b, o, none⟩) h (by simp)⟩
theorem scell2 {W w1 : World} (hs : Same [] W w1) : ∀ (o : Obj) (b i : Nat), b < W.heap.size → (w1.alloc o).cell? ⟨b, i, none⟩ = W.cell? ⟨b, i, none⟩ :=
  fun o b i h => World.cell?_of_block ((Below.heap_alloc _ _ _ (Nat.lt_of_lt_of_le h hs.size)).trans (hs.block b h (by simp)))

/-- The section of a table. -/
def tabS (t e v : Int) (body : ByteArray) : ByteArray := strOf (pack (secBits t false e v true 0 0 body))
theorem size_tabS (t e v : Int) (body : ByteArray) : (tabS t e v body).size = 8 + body.size := by
  unfold tabS
  rw [size_strOf, length_pack, length_secBits]; omega

def SealedPost (w : World) (s : ByteArray) (e : Ending) (w' : World) : Prop :=
  (s.size + 4 ≤ 1024 ∧ ∃ c : ByteArray, c.size = 4 ∧ e = .returned (.tuple #[.string (s ++ c), .int .i64 0]) ∧ Same [] w w') ∨ (1024 < s.size + 4 ∧ e = .returned (.tuple #[.string ⟨#[]⟩, .int .i64 17]) ∧ Same [] w w')

set_option maxHeartbeats 1000000 in
theorem sealed_ok (t e v : Int) (body : ByteArray) (w : World) (h : SecOk t e v 0 0 body) :
    Calls Try.prog 22 #[.int .i64 t, .int .i64 e, .int .i64 v, .string body] w (SealedPost w (tabS t e v body)) := by
  have he : ∀ W, Calls Try.prog 28 #[.agg #[.int .i64 t, .bool false, .int .i64 e, .int .i64 v, .bool true, .int .i64 0, .int .i64 0, .string body]] W (SecPost W (tabS t e v body)) := fun W => sencode_ok t false e v true 0 0 body W h
  have hz := size_tabS t e v body
  have hb := h.b
  have HE := Lib.hid he
  generalize tabS t e v body = T at *
  clear he h
  go_enter Try.func22, Try.ntmps22
  go_wp2_with fail
  (with_reducible refine (HE.out _).mono ?_)
  rintro e w1 ⟨c, hc, he, hs⟩
  have hsz : (T ++ c).size = T.size + 4 := by rw [ByteArray.size_append, hc]
  obtain ⟨U, hU⟩ : ∃ U, U = T ++ c := ⟨_, rfl⟩
  rw [← hU] at he hsz
  subst he
  have HC := Lib.hid hc; have HS := Lib.hid hs; have HU := Lib.hid hU
  clear hc hs HE hU
  by_cases h1 : T.size + 4 ≤ 1024
  · have h2 : ¬ (1024 : Int) < (U.size : Int) := by omega
    have H1 := Lib.hid h1
    clear hsz hz hb h1
    go_wp2_with fail
    go_ret2
    exact .inl ⟨H1.out, c, HC.out, by rw [HU.out]; rfl, HS.out⟩
  · have h2 : (1024 : Int) < (U.size : Int) := by omega
    have H1 := Lib.hid h1
    clear hsz hz hb h1
    go_wp2_with fail
    go_ret2
    exact .inr ⟨by have := H1.out; omega, rfl, HS.out⟩

def patS (l : List (Int × Int)) : ByteArray := l.foldl (fun s p => s ++ (twoS p.1 ++ twoS (57344 + p.2))) ⟨#[]⟩
theorem patS_snoc (l : List (Int × Int)) (p : Int × Int) : patS (l ++ [p]) = patS l ++ (twoS p.1 ++ twoS (57344 + p.2)) := by simp [patS]
theorem size_patS_go : ∀ (l : List (Int × Int)) (s : ByteArray), (l.foldl (fun s p => s ++ (twoS p.1 ++ twoS (57344 + p.2))) s).size = s.size + 4 * l.length
  | [], s => by simp
  | p :: l, s => by
    rw [List.foldl_cons, size_patS_go l]
    simp only [ByteArray.size_append, size_twoS, List.length_cons]; omega
theorem size_patS (l : List (Int × Int)) : (patS l).size = 4 * l.length := by
  rw [patS, size_patS_go]
  show 0 + _ = _; omega

theorem or_pid (p : Int) (h0 : 0 ≤ p) (h1 : p ≤ 8191) : bits .or .i64 57344 p = 57344 + p := by
  obtain ⟨q, rfl⟩ : ∃ q : Nat, p = q := ⟨p.toNat, by omega⟩
  have hk : ∀ n : Int, 0 ≤ n → n < 2 ^ 16 → IntKind.i64.wrap n = n := fun n a b => by rw [IntKind.wrap_i64]; omega
  have := (bits_nat .i64 16 (by decide) hk 57344 q (by decide) (by omega)).2
  rw [show ((57344 : Nat) : Int) = 57344 from rfl] at this
  rw [this]
  have e : 57344 ||| q = 2 ^ 13 * 7 + q := by
    rw [← Nat.two_pow_add_eq_or_of_lt (by omega : q < 2 ^ 13) 7]
  rw [e]; omega

/-- A Pat that may be. -/
structure PatOk (st ve : Int) (ps : List (Int × Int)) : Prop where
  s0 : 0 ≤ st
  s1 : st ≤ 65535
  v0 : 0 ≤ ve
  v1 : ve ≤ 31
  p : ∀ x ∈ ps, (0 ≤ x.1 ∧ x.1 ≤ 65535) ∧ 0 ≤ x.2 ∧ x.2 ≤ 8191

set_option maxRecDepth 100000 in
set_option maxHeartbeats 4000000 in
theorem encodePat_ok (st ve : Int) (ps : List (Int × Int)) (g off c : Nat) (w : World) (hc : ProgsAt w g off ps) (hlc : ps.length ≤ c) (hok : PatOk st ve ps) (hn : ps.length ≤ 256) (hnd : (ps.map (·.1)).Nodup) :
    Calls Try.prog 10 #[.agg #[.int .i64 st, .int .i64 ve, .slice (some ⟨g, off, none⟩) ps.length c]] w (SealedPost w (tabS 0 st ve (patS ps))) := by
  have HC := Lib.hid hc; have HOK := Lib.hid hok; have HND := Lib.hid hnd
  have TB := Lib.hid (heap_alloc_new w (.cells #[.int .i64 st, .int .i64 ve, .slice (some ⟨g, off, none⟩) ps.length c] 26))
  have d0 : (decide (0 ≤ st) && decide (st ≤ 65535)) = true := by have := hok.s0; have := hok.s1; simp; omega
  have d1 : (decide (0 ≤ ve) && decide (ve ≤ 31)) = true := by have := hok.v0; have := hok.v1; simp; omega
  clear hc hok hnd
  go_enter Try.func10, Try.ntmps10
  go_wp2_with (go_at_call 17; (with_reducible refine (within_any _ _ _).mono ?_); rintro e w' ⟨rfl, rfl⟩; first | rw [d0] | rw [d1])
  obtain ⟨W1, hW1⟩ : ∃ W1, W1 = w.alloc (.cells #[.int .i64 st, .int .i64 ve, .slice (some ⟨g, off, none⟩) ps.length c] 26) := ⟨_, rfl⟩
  rw [← hW1] at TB ⊢
  have S1 := Lib.hid (show Same [] w W1 by rw [hW1]; exact (Same.refl [] w).alloc _)
  clear hW1
  go_loopw [19, 4, 5] (fun i r b wr => ∃ k : Nat, k ≤ ps.length ∧ i = .int .i64 k ∧ r = .bool true ∧ b = .string (patS (ps.take k)) ∧ Same [] W1 wr) (fun i _ _ _ => ps.length - (intOf i).toNat)
  case atStart => exact ⟨0, by omega, rfl, rfl, rfl, Same.refl _ _⟩
  case round =>
    obtain ⟨k, hk, rfl, rfl, rfl, hst⟩ := hrel
    by_cases hk1 : k < ps.length
    · have hk2 : (k : Int) < ps.length := by omega
      obtain ⟨e0, e1⟩ := HC.out k hk1
      have c0 := (S1.out.trans_nil hst).cell e0 (by simp)
      have c1 := (S1.out.trans_nil hst).cell e1 (by simp)
      obtain ⟨⟨q0, q1⟩, q2, q3⟩ := HOK.out.p ps[k] (List.getElem_mem hk1)
      have htk : patS (ps.take (k + 1)) = patS (ps.take k) ++ (twoS ps[k].1 ++ twoS (57344 + ps[k].2)) := by
        rw [List.take_add_one, List.getElem?_eq_getElem hk1]
        exact patS_snoc _ _
      have hz0 : (patS (ps.take k)).size ≤ 1024 := by rw [size_patS, List.length_take]; omega
      obtain ⟨x, hx⟩ : ∃ x, x = ps[k].1 := ⟨_, rfl⟩
      obtain ⟨y, hy⟩ : ∃ y, y = ps[k].2 := ⟨_, rfl⟩
      rw [← hx, ← hy] at htk
      rw [← hx] at c0 q0 q1
      rw [← hy] at c1 q2 q3
      clear e0 e1 hx hy
      generalize patS (ps.take k) = T at *
      have HTK := Lib.hid htk; have HST := Lib.hid hst
      have b0 : (decide (0 ≤ x) && decide (x ≤ 65535)) = true := by simp; omega
      have b1 : (decide (0 ≤ y) && decide (y ≤ 8191)) = true := by simp; omega
      have hor := or_pid y q2 q3
      clear htk hst
      go_upto_region 7 with (first
        | (go_at_call 17; (with_reducible refine (within_any _ _ _).mono ?_); rintro e w' ⟨rfl, rfl⟩; rw [b0])
        | (go_at_call 18; (with_reducible refine (pid_any _ _).mono ?_); rintro e w' ⟨rfl, rfl⟩; rw [b1]))
      have hb := heap_alloc_new wr (.cells #[.int .i64 x, .int .i64 y] 50)
      have hlt : wr.heap.size < (wr.alloc (.cells #[.int .i64 x, .int .i64 y] 50)).heap.size := by simp
      have HST2 := Lib.hid (HST.out.alloc (.cells #[.int .i64 x, .int .i64 y] 50))
      clear c0 c1 b0 b1
      obtain ⟨G, hG⟩ : ∃ G, G = wr.heap.size := ⟨_, rfl⟩
      rw [← hG] at hb hlt ⊢
      generalize wr.alloc (.cells #[.int .i64 x, .int .i64 y] 50) = wa at *
      clear hG
      have c0 := cell_of hb 0; have c1 := cell_of hb 1
      simp only [List.getElem?_toArray, List.getElem?_cons_zero, List.getElem?_cons_succ] at c0 c1
      clear hb
      have hsa : ∀ a b : ByteArray, (a ++ b).size = a.size + b.size := fun a b => ByteArray.size_append
      have hz1 := size_twoS x
      have hz2 := size_twoS (57344 + y)
      have HW := Lib.hid HST2.out.drew
      go_region_with (go_at_call 19; (with_reducible refine (two_any _ _).mono ?_); rintro e w' ⟨rfl, hs⟩; obtain ⟨sc1, sc2⟩ := scell hs; have hz := hs.size; (try simp only [drew_heap, World.size_alloc] at hz sc1 sc2); have HW := Lib.hid (HW.out.trans_nil hs); clear hs)
      all_goals go_wp2_with fail
      all_goals go_roundw
      any_goals (case rel => exact ⟨k + 1, by omega, by go_num, rfl, by rw [HTK.out], HW.out⟩)
      all_goals (simp [intOf]; omega)
    · have hk2 : ¬ (k : Int) < ps.length := by omega
      obtain rfl : k = ps.length := by omega
      rw [List.take_of_length_le (Nat.le_refl _)]
      have bx := hst.heap TB.out (by simp)
      have k0 := cell_of bx 0; have k1 := cell_of bx 1; have k2 := cell_of bx 2
      simp only [List.getElem?_toArray, List.getElem?_cons_zero, List.getElem?_cons_succ] at k0 k1 k2
      have hz := size_patS ps
      have hz4 : ¬ (1024 : Int) < ((patS ps).size : Int) := by omega
      have hsec : SecOk 0 st ve 0 0 (patS ps) := by
        obtain ⟨s0, s1, v0, v1, _⟩ := HOK.out
        exact ⟨by omega, by omega, s0, by omega, v0, by omega, by omega, by omega, by omega, by omega⟩
      have HS := Lib.hid (fun W => sealed_ok 0 st ve (patS ps) W hsec)
      have hc2 : ProgsAt wr g off ps := fun j hj => by
        obtain ⟨e0, e1⟩ := HC.out j hj
        exact ⟨(S1.out.trans_nil hst).cell e0 (by simp), (S1.out.trans_nil hst).cell e1 (by simp)⟩
      have HTW := Lib.hid (twice_pat ps g off c wr hc2 (by omega) hlc (fun p hp => by
        obtain ⟨⟨h0, h1⟩, _⟩ := HOK.out.p p hp
        exact WalkArith.wf_i64 (by omega)))
      have BX := Lib.hid bx; have HST := Lib.hid hst
      clear bx hst hz hsec hc2
      generalize patS ps = T at *
      go_wp2_with fail
      (with_reducible refine HTW.out.mono ?_)
      rintro e w2 ⟨rfl, s2⟩
      have bx := s2.heap BX.out (by simp)
      have hdn : (!decide (ps.map (·.1)).Nodup) = false := by simp [HND.out]
      rw [hdn]
      clear k0 k1 k2
      have k0 := cell_of bx 0; have k1 := cell_of bx 1; have k2 := cell_of bx 2
      simp only [List.getElem?_toArray, List.getElem?_cons_zero, List.getElem?_cons_succ] at k0 k1 k2
      have S3 := Lib.hid ((S1.out.trans_nil HST.out).trans_nil s2)
      clear bx s2 hdn
      go_wp2_with fail
      (with_reducible refine (HS.out _).mono ?_)
      rintro e w3 h
      rcases h with ⟨z1, cc, hcc, rfl, s3⟩ | ⟨z1, rfl, s3⟩
      · have Z := Lib.hid z1; have CC := Lib.hid hcc; have S4 := Lib.hid s3
        clear z1 hcc s3
        go_wp2_with fail
        go_ret2
        exact .inl ⟨Z.out, cc, CC.out, rfl, S3.out.trans_nil S4.out⟩
      · have Z := Lib.hid z1; have S4 := Lib.hid s3
        clear z1 s3
        go_wp2_with fail
        go_ret2
        exact .inr ⟨Z.out, rfl, S3.out.trans_nil S4.out⟩

end Go.Proofs.Ytabglpkoklajlaa
