/- A packet as bytes, in the program (Encode). Condition: the table 'widths' (block 0) holds what its initialiser lays. -/
import Derived.Test.YtpnbhgmcfooppaaDoorDEn2
import Derived.Test.YtpnbhgmcfooppaaDoorPk1
import Derived.LoopN
import Derived.Deep.DeepCutAuto
namespace Go.Proofs.YtpnbhgmcfooppaaDoor
open Go.RowKit
set_option linter.unusedSimpArgs false
set_option linter.unusedVariables false

/-- What Encode answers. -/
def EncPost (w : World) (pid : Int) (st : Bool) (c : Int) (bad : Bool) (body : ByteArray) (e : Ending) (w' : World) : Prop :=
  Same [] w w' ∧ e = .returned (.tuple #[.string (if chkG pid c body = 0 then encG pid.toNat st c.toNat bad body else ⟨#[]⟩), .int .i64 (chkG pid c body)])

set_option maxRecDepth 100000 in
theorem encode_bad (pid : Int) (st : Bool) (c : Int) (bad : Bool) (body : ByteArray) (w : World) (h : chkG pid c body ≠ 0) :
    Calls Tryd.prog 31 #[.agg #[.int .i64 pid, .bool st, .int .i64 c, .bool bad, .string body]] w (EncPost w pid st c bad body) := by
  have HC := Lib.hid (fun W => pcheck_any pid st c bad body W)
  have hne : (chkG pid c body != 0) = true := by simp; exact h
  have hE : EncPost w pid st c bad body = fun e w' => Same [] w w' ∧ e = .returned (.tuple #[.string ⟨#[]⟩, .int .i64 (chkG pid c body)]) := by
    funext e w'; unfold EncPost; rw [if_neg h]
  rw [hE]
  clear hE h
  generalize chkG pid c body = k at *
  go_enter Tryd.func31, Tryd.ntmps31
  go_wp2_with fail
  (with_reducible refine (HC.out _).mono ?_)
  rintro e w1 ⟨rfl, s1⟩
  have S1 := Lib.hid s1
  clear s1
  go_wp2_with fail
  go_ret2
  exact ⟨((Same.refl [] w).alloc _).trans_nil S1.out, rfl⟩

theorem how_or (body : ByteArray) (hb : body.size ≤ 184) : bits .or .i64 (wrap64 ↑(!body.toList.isEmpty).toNat) (wrap64 (↑(decide ((body.size : Int) < 184)).toNat * 2)) = (howG body.size : Int) := by
  have h1 : body.toList.isEmpty = decide (body.size = 0) := by
    rw [ByteArray.toList_eq, Bool.eq_iff_iff, List.isEmpty_iff, decide_eq_true_eq, ← List.length_eq_zero_iff, Array.length_toList]; rfl
  rw [h1]
  unfold howG
  by_cases h2 : body.size = 184
  · rw [if_pos h2, decide_eq_false (by omega), decide_eq_false (by omega)]; decide +kernel
  · rw [if_neg h2, decide_eq_true (show (body.size : Int) < 184 by omega)]
    by_cases h3 : body.size = 0
    · rw [if_pos h3, decide_eq_true h3]; decide +kernel
    · rw [if_neg h3, decide_eq_false h3]; decide +kernel

theorem put_nat (w : World) (b : Nat) (r : Option Nat) (l : List Bool) (X N : Nat) (x n : Int) (hx : x = X) (hn : n = N) (W : World) (hO : OutStep w b r l W) (hl : l.length + 64 < 1099511627776) (h2 : N ≤ 64) (h4 : X < 18446744073709551616) :
    Calls Tryd.prog 43 #[.pointer (some ⟨b, 0, none⟩), .int .u64 x, .int .i64 n] W fun e w' => e = .returned (.int .i64 0) ∧ OutStep w b r (l ++ bitsOf X N) w' := by
  subst hx hn
  have := put_step w b r l (X : Int) (N : Int) W hO hl (by omega) (by omega) (by omega) (by omega)
  rwa [Int.toNat_natCast, Int.toNat_natCast] at this
theorem OutStep.sm {w : World} {b : Nat} {l : List Bool} {W : World} (h : OutStep w b none l W) : Same [b] w W := by
  obtain ⟨_, _, hs, _⟩ := h
  exact hs
theorem text_two (b : Nat) (r : Option Nat) (l : List Bool) (A B : ByteArray) (g : Nat) (w : World) (hO : IsOut w b r l) (hl : l.length + (8 * A.size + 8 * B.size) + 64 < 1099511627776)
    (h0 : w.cell? ⟨g, 0, none⟩ = some (.string A)) (h1 : w.cell? ⟨g, 1, none⟩ = some (.string B)) (hgb : g ≠ b) (hgr : r ≠ some g) :
    Calls Tryd.prog 44 #[.pointer (some ⟨b, 0, none⟩), .slice (some ⟨g, 0, none⟩) 2 2] w (TextPost w b r (l ++ ofStrs [A, B])) :=
  text_ok b r l [A, B] g 0 2 w hO (by simp only [ofStrs, List.flatMap_cons, List.flatMap_nil, List.append_nil, List.length_append, length_ofStr]; omega)
    (fun k hk => by
      have h2 : k = 0 ∨ k = 1 := by simp at hk; omega
      rcases h2 with rfl | rfl
      · exact h0
      · exact h1) hgb hgr (by simp) (Nat.le_refl _)

theorem OutStep.on {w : World} {b : Nat} {r : Option Nat} {l : List Bool} {W W' : World} (h : OutStep w b r l W) (hs : Same [] W W') : OutStep w b r l W' := by
  obtain ⟨r', ho, hs', hr'⟩ := h
  exact ⟨r', ho.same hs (by simp) (fun _ _ => by simp), hs'.trans_nil hs, hr'⟩

set_option maxRecDepth 100000 in
set_option maxHeartbeats 8000000 in
theorem encode_ok (pid : Nat) (st : Bool) (c : Nat) (bad : Bool) (body : ByteArray) (w : World) (hp : pid < 8192) (hc : c < 16) (hb : body.size ≤ 184) (ht : Tab w) :
    Calls Tryd.prog 31 #[.agg #[.int .i64 pid, .bool st, .int .i64 c, .bool bad, .string body]] w (fun e w' => Same [] w w' ∧ e = .returned (.tuple #[.string (encG pid st c bad body), .int .i64 0])) := by
  have HC := Lib.hid (fun W => show Calls Tryd.prog 27 #[.agg #[.int .i64 pid, .bool st, .int .i64 c, .bool bad, .string body]] W (NumPost W 0) by
    have := pcheck_any (pid : Int) st (c : Int) bad body W
    rw [show chkG (pid : Int) (c : Int) body = 0 by unfold chkG; rw [if_neg (by omega), if_neg (by omega)]] at this
    exact this)
  have HB := Lib.hid (heap_alloc_new w (.cells #[.int .i64 pid, .bool st, .int .i64 c, .bool bad, .string body] 37))
  have HT := Lib.hid ht
  have h0 := ht.lt
  clear ht
  obtain ⟨h, hh⟩ : ∃ h, h = howG body.size := ⟨_, rfl⟩
  have hh3 : h ≤ 3 := by rw [hh]; unfold howG; split <;> (try split) <;> omega
  have HOR := Lib.hid (how_or body hb)
  rw [← hh] at HOR
  have HH := Lib.hid hh
  clear hh
  go_enter Tryd.func31, Tryd.ntmps31
  go_wp2_with fail
  (with_reducible refine (HC.out _).mono ?_)
  rintro e w1 ⟨rfl, s1⟩
  have hP := s1.heap HB.out (by simp)
  have S1 := Lib.hid (((Same.refl [] w).alloc _).trans_nil s1)
  have P1 := Lib.hid hP
  obtain ⟨k0, k1, k2, k3, k4⟩ := pkt_cells hP
  have hsz1 := s1.size
  rw [World.size_alloc] at hsz1
  clear s1 hP HB
  go_upto_region 4 with fail
  go_cut [5] (fun s5 wx => s5 = .int .i64 (h : Int) ∧ Same [] w1 wx)
  case first =>
    go_quiet (first | (go_at_call 42; exact Calls.quiet_of_same ((flag_any _ _).mono fun e w' ⟨x1, x2⟩ => ⟨x1, x2.symm⟩)))
    go_wp2_with fail
    go_meet
    exact ⟨by rw [HOR.out], Same.drewN _ _⟩
  obtain ⟨rfl, s2⟩ := hcut
  have hP := s2.heap P1.out (by simp)
  have S2 := Lib.hid (S1.out.trans_nil s2)
  have P2 := Lib.hid hP
  have hsz2 := s2.size
  clear k0 k1 k2 k3 k4 s2 hP P1 S1 HOR HC
  have hlt : w.heap.size < wc.heap.size := by omega
  clear hsz1 hsz2
  have hnw := isOut_new wc
  have PA := Lib.hid ((Below.heap_alloc wc (.cells #[.slice none 0 0, .int .i64 0] 92) _ hlt).trans P2.out)
  have SA := Lib.hid (S2.out.alloc (.cells #[.slice none 0 0, .int .i64 0] 92))
  have hszA : (wc.alloc (.cells #[.slice none 0 0, .int .i64 0] 92)).heap.size = wc.heap.size + 1 := World.size_alloc _ _
  obtain ⟨k0, k1, k2, k3, k4⟩ := pkt_cells PA.out
  have HNW := Lib.hid hnw
  obtain ⟨b, hbb⟩ : ∃ b, b = wc.heap.size := ⟨_, rfl⟩
  clear hnw P2 S2
  go_upto_region 6 with fail
  go_cut [37, 38] (fun s37 s38 wx => s38 = .int .i64 0 ∧ s37 = .agg #[.int .i64 71, .int .i64 (bad.toNat : Int), .int .i64 (st.toNat : Int), .int .i64 0, .int .i64 (pid : Int), .int .i64 0, .int .i64 (h : Int), .int .i64 (c : Int)] ∧ Same [] (wc.alloc (.cells #[.slice none 0 0, .int .i64 0] 92)) wx)
  case first =>
    go_quiet (first | (go_at_call 42; exact Calls.quiet_of_same ((flag_any _ _).mono fun e w' ⟨x1, x2⟩ => ⟨x1, x2.symm⟩)))
    go_wp2_with fail
    go_meet
    exact ⟨rfl, rfl, Same.drewN _ _⟩
  obtain ⟨rfl, rfl, s3⟩ := hcut
  have hP := s3.heap PA.out (by simp)
  have S3 := Lib.hid (SA.out.trans_nil s3)
  obtain ⟨r0, ho0, _, hr0⟩ := HNW.out
  rw [← hbb] at ho0
  have hsz3 := s3.size
  have HO := Lib.hid (show OutStep wc b none ([] : List Bool) wc from ⟨r0, ho0.same s3 (by simp) (by simp), Same.refl _ _, fun k hk => by
    have h1 := ho0.lt.2 k hk
    rcases hr0 k hk with h2 | h2
    · cases h2
    · omega⟩)
  have h0b : 0 < b := by omega
  have hPb : w.heap.size < b := by omega
  have hbw : w.heap.size ≤ b := by omega
  have HT6 := Lib.hid (HT.out.same S3.out (by simp))
  have PP := Lib.hid hP
  rw [← hbb]
  clear k0 k1 k2 k3 k4 s3 hP PA SA ho0 hr0 HNW HT hszA hlt hsz3
  clear hbb
  have f0 := width_0; have f1 := width_1; have f2 := width_2; have f3 := width_3; have f4 := width_4; have f5 := width_5; have f6 := width_6; have f7 := width_7
  have hb1 : bad.toNat ≤ 1 := by cases bad <;> decide
  have hb2 : st.toNat ≤ 1 := by cases st <;> decide
  have v1 : IntKind.u64.wrap (bad.toNat : Int) = (bad.toNat : Int) := IntWalk.u64_in _ (by omega)
  have v2 : IntKind.u64.wrap (st.toNat : Int) = (st.toNat : Int) := IntWalk.u64_in _ (by omega)
  have v4 : IntKind.u64.wrap (pid : Int) = (pid : Int) := IntWalk.u64_in _ (by omega)
  have v6 : IntKind.u64.wrap (h : Int) = (h : Int) := IntWalk.u64_in _ (by omega)
  have v7 : IntKind.u64.wrap (c : Int) = (c : Int) := IntWalk.u64_in _ (by omega)
  go_wp2_with fail
  refine wp_loop_rounds 9 ?_
  rw [rounds_succ]
  obtain ⟨t0, t1, t2, t3, t4, t5, t6, t7⟩ := HT6.out.same HO.out.sm (by simp; omega)
  go_wp2_with fail
  (with_reducible refine Calls.mono (put_nat wc b none ([] : List Bool) 71 8 _ _ (by first | rfl | omega | simp) (by first | rfl | omega) _ HO.out (by simp [length_bitsOf]) (by omega) (by omega)) ?_)
  rintro e w20 ⟨rfl, ho⟩
  have HO := Lib.hid (show OutStep wc b none (([] : List Bool) ++ bitsOf 71 8) _ from ho)
  clear ho t0 t1 t2 t3 t4 t5 t6 t7
  go_wp2_with fail
  rw [rounds_succ]
  obtain ⟨t0, t1, t2, t3, t4, t5, t6, t7⟩ := HT6.out.same HO.out.sm (by simp; omega)
  go_wp2_with fail
  (with_reducible refine Calls.mono (put_nat wc b none (([] : List Bool) ++ bitsOf 71 8) bad.toNat 1 _ _ (by first | rfl | omega | simp) (by first | rfl | omega) _ HO.out (by simp [length_bitsOf]) (by omega) (by omega)) ?_)
  rintro e w21 ⟨rfl, ho⟩
  have HO := Lib.hid (show OutStep wc b none ((([] : List Bool) ++ bitsOf 71 8) ++ bitsOf bad.toNat 1) _ from ho)
  clear ho t0 t1 t2 t3 t4 t5 t6 t7
  go_wp2_with fail
  rw [rounds_succ]
  obtain ⟨t0, t1, t2, t3, t4, t5, t6, t7⟩ := HT6.out.same HO.out.sm (by simp; omega)
  go_wp2_with fail
  (with_reducible refine Calls.mono (put_nat wc b none ((([] : List Bool) ++ bitsOf 71 8) ++ bitsOf bad.toNat 1) st.toNat 1 _ _ (by first | rfl | omega | simp) (by first | rfl | omega) _ HO.out (by simp [length_bitsOf]) (by omega) (by omega)) ?_)
  rintro e w22 ⟨rfl, ho⟩
  have HO := Lib.hid (show OutStep wc b none (((([] : List Bool) ++ bitsOf 71 8) ++ bitsOf bad.toNat 1) ++ bitsOf st.toNat 1) _ from ho)
  clear ho t0 t1 t2 t3 t4 t5 t6 t7
  go_wp2_with fail
  rw [rounds_succ]
  obtain ⟨t0, t1, t2, t3, t4, t5, t6, t7⟩ := HT6.out.same HO.out.sm (by simp; omega)
  go_wp2_with fail
  (with_reducible refine Calls.mono (put_nat wc b none (((([] : List Bool) ++ bitsOf 71 8) ++ bitsOf bad.toNat 1) ++ bitsOf st.toNat 1) 0 1 _ _ (by first | rfl | omega | simp) (by first | rfl | omega) _ HO.out (by simp [length_bitsOf]) (by omega) (by omega)) ?_)
  rintro e w23 ⟨rfl, ho⟩
  have HO := Lib.hid (show OutStep wc b none ((((([] : List Bool) ++ bitsOf 71 8) ++ bitsOf bad.toNat 1) ++ bitsOf st.toNat 1) ++ bitsOf 0 1) _ from ho)
  clear ho t0 t1 t2 t3 t4 t5 t6 t7
  go_wp2_with fail
  rw [rounds_succ]
  obtain ⟨t0, t1, t2, t3, t4, t5, t6, t7⟩ := HT6.out.same HO.out.sm (by simp; omega)
  go_wp2_with fail
  (with_reducible refine Calls.mono (put_nat wc b none ((((([] : List Bool) ++ bitsOf 71 8) ++ bitsOf bad.toNat 1) ++ bitsOf st.toNat 1) ++ bitsOf 0 1) pid 13 _ _ (by first | rfl | omega | simp) (by first | rfl | omega) _ HO.out (by simp [length_bitsOf]) (by omega) (by omega)) ?_)
  rintro e w24 ⟨rfl, ho⟩
  have HO := Lib.hid (show OutStep wc b none (((((([] : List Bool) ++ bitsOf 71 8) ++ bitsOf bad.toNat 1) ++ bitsOf st.toNat 1) ++ bitsOf 0 1) ++ bitsOf pid 13) _ from ho)
  clear ho t0 t1 t2 t3 t4 t5 t6 t7
  go_wp2_with fail
  rw [rounds_succ]
  obtain ⟨t0, t1, t2, t3, t4, t5, t6, t7⟩ := HT6.out.same HO.out.sm (by simp; omega)
  go_wp2_with fail
  (with_reducible refine Calls.mono (put_nat wc b none (((((([] : List Bool) ++ bitsOf 71 8) ++ bitsOf bad.toNat 1) ++ bitsOf st.toNat 1) ++ bitsOf 0 1) ++ bitsOf pid 13) 0 2 _ _ (by first | rfl | omega | simp) (by first | rfl | omega) _ HO.out (by simp [length_bitsOf]) (by omega) (by omega)) ?_)
  rintro e w25 ⟨rfl, ho⟩
  have HO := Lib.hid (show OutStep wc b none ((((((([] : List Bool) ++ bitsOf 71 8) ++ bitsOf bad.toNat 1) ++ bitsOf st.toNat 1) ++ bitsOf 0 1) ++ bitsOf pid 13) ++ bitsOf 0 2) _ from ho)
  clear ho t0 t1 t2 t3 t4 t5 t6 t7
  go_wp2_with fail
  rw [rounds_succ]
  obtain ⟨t0, t1, t2, t3, t4, t5, t6, t7⟩ := HT6.out.same HO.out.sm (by simp; omega)
  go_wp2_with fail
  (with_reducible refine Calls.mono (put_nat wc b none ((((((([] : List Bool) ++ bitsOf 71 8) ++ bitsOf bad.toNat 1) ++ bitsOf st.toNat 1) ++ bitsOf 0 1) ++ bitsOf pid 13) ++ bitsOf 0 2) h 2 _ _ (by first | rfl | omega | simp) (by first | rfl | omega) _ HO.out (by simp [length_bitsOf]) (by omega) (by omega)) ?_)
  rintro e w26 ⟨rfl, ho⟩
  have HO := Lib.hid (show OutStep wc b none (((((((([] : List Bool) ++ bitsOf 71 8) ++ bitsOf bad.toNat 1) ++ bitsOf st.toNat 1) ++ bitsOf 0 1) ++ bitsOf pid 13) ++ bitsOf 0 2) ++ bitsOf h 2) _ from ho)
  clear ho t0 t1 t2 t3 t4 t5 t6 t7
  go_wp2_with fail
  rw [rounds_succ]
  obtain ⟨t0, t1, t2, t3, t4, t5, t6, t7⟩ := HT6.out.same HO.out.sm (by simp; omega)
  go_wp2_with fail
  (with_reducible refine Calls.mono (put_nat wc b none (((((((([] : List Bool) ++ bitsOf 71 8) ++ bitsOf bad.toNat 1) ++ bitsOf st.toNat 1) ++ bitsOf 0 1) ++ bitsOf pid 13) ++ bitsOf 0 2) ++ bitsOf h 2) c 4 _ _ (by first | rfl | omega | simp) (by first | rfl | omega) _ HO.out (by simp [length_bitsOf]) (by omega) (by omega)) ?_)
  rintro e w27 ⟨rfl, ho⟩
  have HO := Lib.hid (show OutStep wc b none ((((((((([] : List Bool) ++ bitsOf 71 8) ++ bitsOf bad.toNat 1) ++ bitsOf st.toNat 1) ++ bitsOf 0 1) ++ bitsOf pid 13) ++ bitsOf 0 2) ++ bitsOf h 2) ++ bitsOf c 4) _ from ho)
  clear ho t0 t1 t2 t3 t4 t5 t6 t7
  go_wp2_with fail
  rw [rounds_succ]
  clear f0 f1 f2 f3 f4 f5 f6 f7 v1 v2 v4 v6 v7
  have hsm := HO.out.sm
  obtain ⟨k0, k1, k2, k3, k4⟩ := pkt_cells (hsm.heap PP.out (by simp; omega))
  have hszv := hsm.size
  have hPlt : w.heap.size < w27.heap.size := by have := HO.out; obtain ⟨_, ho, _, _⟩ := this; have := ho.lt.1; omega
  clear hsm
  go_wp2_with fail
  obtain ⟨r7, ho7, hs7, hr7⟩ := HO.out
  have hl7 := ho7.lt
  have HO7 := Lib.hid ho7; have HS7 := Lib.hid hs7; have HR7 := Lib.hid hr7
  have hbl : b < w27.heap.size := hl7.1
  have HL7 := Lib.hid hl7.2
  have hza : (strOfNums (adL body.size)).size ≤ 184 := by rw [strOfNums_size, length_adL _ hb]; omega
  clear ho7 hs7 hr7 hl7
  generalize hA : strOfNums (adL body.size) = A at hza
  have HST := Lib.hid (fun W => by have := stuffed_any body.size hb W; rw [hA] at this; exact this)
  have HA := Lib.hid hA
  clear hA
  go_cut [52] (fun s52 wx => OutStep w27 b r7 (((((((((([] : List Bool) ++ bitsOf 71 8) ++ bitsOf bad.toNat 1) ++ bitsOf st.toNat 1) ++ bitsOf 0 1) ++ bitsOf pid 13) ++ bitsOf 0 2) ++ bitsOf h 2) ++ bitsOf c 4) ++ ofStrs [A, body]) wx)
  case first =>
    go_region_with (first
      | (go_at_call 45; (with_reducible refine (HST.out _).mono ?_); rintro e w' ⟨rfl, hs⟩; have sc1 := sce1 hs; have hz := hs.size; (try simp only [drew_heap, World.size_alloc] at hz sc1); have HS8 := Lib.hid hs; clear hs)
      | (go_at_call 44; (with_reducible refine Calls.mono (text_two b r7 ((((((((([] : List Bool) ++ bitsOf 71 8) ++ bitsOf bad.toNat 1) ++ bitsOf st.toNat 1) ++ bitsOf 0 1) ++ bitsOf pid 13) ++ bitsOf 0 2) ++ bitsOf h 2) ++ bitsOf c 4) A body _ _ (by exact HO7.out.same (S := []) (by repeat (first | exact Same.refl _ _ | refine Same.drew ?_ | refine Same.alloc ?_ _ | refine Same.trans_nil ?_ HS8.out)) (by simp) (by simp)) (by simp [length_bitsOf]; omega) (by exact (World.cell?_alloc_mark _ _ _ _ 0).trans rfl) (by exact (World.cell?_alloc_mark _ _ _ _ 1).trans rfl) (by omega) (fun h9 => by have := HL7.out _ h9; omega)) ?_); rintro e w' ⟨rfl, ho9⟩; have HO9 := Lib.hid ho9; clear ho9))
    all_goals (go_wp2_with fail)
    all_goals go_meet
    all_goals exact OutStep.on (OutStep.trans (fun k hk => .inl hk) (Same.mono (S := []) (by repeat (first | exact Same.refl _ _ | refine Same.drew ?_ | refine Same.alloc ?_ _ | refine Same.trans_nil ?_ HS8.out)) (fun x hx => by simp at hx)) HO9.out) (by repeat (first | exact Same.refl _ _ | refine Same.drew ?_))
  obtain ⟨r9, ho9, hs9, hr9⟩ := hcut
  have HO9 := Lib.hid ho9
  have HSW := Lib.hid (show Same [] w wc from (S3.out.trans HS7.out (fun x hx hlt9 => by simp at hx; omega)).trans hs9 (fun x hx hlt9 => by
    simp only [List.mem_cons, Option.mem_toList] at hx
    rcases hx with rfl | hx
    · omega
    · rcases HR7.out x hx with h9 | h9
      · cases h9
      · have := S3.out.size; omega))
  have HE := Lib.hid (show strOf (pack (((((((((([] : List Bool) ++ bitsOf 71 8) ++ bitsOf bad.toNat 1) ++ bitsOf st.toNat 1) ++ bitsOf 0 1) ++ bitsOf pid 13) ++ bitsOf 0 2) ++ bitsOf h 2) ++ bitsOf c 4) ++ ofStrs [A, body])) = encG pid st c bad body by
    rw [← HA.out, HH.out, ← pack_str (encG pid st c bad body), ← enc_bits pid st c bad body hp hc]
    unfold fieldsL
    rw [List.nil_append])
  clear ho9 hs9 hr9 k0 k1 k2 k3 k4 HO HO7 HS7 HR7 HL7 S3
  go_wp2_with fail
  (with_reducible refine (out_string b r9 _ _ HO9.out (by simp [length_bitsOf, ofStrs, length_ofStr]; omega)).mono ?_)
  rintro e w' ⟨rfl, rfl⟩
  rw [HE.out]
  go_wp2_with fail
  go_ret2
  exact ⟨HSW.out, rfl⟩
theorem encode_any (pid : Int) (st : Bool) (c : Int) (bad : Bool) (body : ByteArray) (w : World) (ht : Tab w) :
    Calls Tryd.prog 31 #[.agg #[.int .i64 pid, .bool st, .int .i64 c, .bool bad, .string body]] w (EncPost w pid st c bad body) := by
  by_cases h : chkG pid c body = 0
  · obtain ⟨h1, h2, h3⟩ := chk_range h
    have h4 : 0 ≤ pid ∧ pid < 8192 := by
      unfold chkG at h
      by_cases h9 : pid < 0 ∨ 8192 ≤ pid ∨ c < 0 ∨ 15 < c
      · rw [if_pos h9] at h; omega
      · omega
    obtain ⟨p, rfl⟩ : ∃ p : Nat, pid = p := ⟨pid.toNat, by omega⟩
    obtain ⟨k, rfl⟩ : ∃ k : Nat, c = k := ⟨c.toNat, by omega⟩
    refine (encode_ok p st k bad body w (by omega) (by omega) h3 ht).mono fun e w' ⟨x1, x2⟩ => ⟨x1, ?_⟩
    rw [x2, if_pos h, h]; rfl
  · exact encode_bad pid st c bad body w h

end Go.Proofs.YtpnbhgmcfooppaaDoor

