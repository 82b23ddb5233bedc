/- The bytes of any program's streams (EncodePmt), as a function. Condition: up to 1000 streams, Infos of up to 5000 bytes. -/
import Derived.Test.YtpkpfebhdgbgbaaGreatDoorTSEp1
import Derived.Deep.RegionHeld3
import Derived.Deep.RegionLaw
namespace Go.Proofs.YtpkpfebhdgbgbaaGreatDoor.S
open Go.RowKit
set_option linter.unusedSimpArgs false
set_option linter.unusedVariables false

theorem at_list {α : Type} (l : List α) (i : Nat) (o : α) (h : l[i]? = some o) : l.toArray[i]? = some o := by simpa using h
noncomputable def slowConv (g n c : Nat) (W : World) : Result Value := (convert 33 9 (.slice (some ⟨g, 0, none⟩) n c)).run Tryz.prog W
theorem conv1 (W : World) (g c : Nat) : (convert 33 9 (.slice (some ⟨g, 0, none⟩) 1 c)).run Tryz.prog W =
    (match W.cell? ⟨g, 0, none⟩ with | some (.int .u8 a0) => .ok (.string (strOfNums [a0])) W | _ => slowConv g 1 c W) := by
  split
  · rename_i a0 h0
    refine run_convert_bytes_arg W _ 5 Tryz.underlying33 Tryz.underlying5 g 0 1 c [a0] rfl (fun i hi => ?_) _ Tryz.underlying9
    have hi' : i = 0 := by omega
    subst hi'
    · exact h0
  · rfl
def orL (n : Int) : Int := bits .or .i64 61440 n
def oneS (n : Int) : ByteArray := strOfNums [n % 256]
theorem size_oneS (n : Int) : (oneS n).size = 1 := strOfNums_size _
def strB (q : StrT) : ByteArray := oneS q.kind ++ twoS (orP q.pid) ++ twoS (orL (q.info.size : Int)) ++ q.info
def topB (cl : Int) (info : ByteArray) : ByteArray := twoS (orP cl) ++ twoS (orL (info.size : Int)) ++ info
def pmtB (cl : Int) (info : ByteArray) (l : List StrT) : ByteArray := l.foldl (fun s q => s ++ strB q) (topB cl info)
theorem pmtB_snoc (cl : Int) (info : ByteArray) (l : List StrT) (q : StrT) : pmtB cl info (l ++ [q]) = pmtB cl info l ++ strB q := by simp [pmtB]
theorem size_strB (q : StrT) : (strB q).size = 5 + q.info.size := by unfold strB; simp only [ByteArray.size_append, size_oneS, size_twoS]
theorem size_topB (cl : Int) (info : ByteArray) : (topB cl info).size = 4 + info.size := by unfold topB; simp only [ByteArray.size_append, size_twoS]
theorem size_pmtB (cl : Int) (info : ByteArray) (l : List StrT) (h : ∀ q ∈ l, q.info.size ≤ 5000) : (pmtB cl info l).size ≤ 4 + info.size + 5005 * l.length := by
  have key : ∀ (l : List StrT) (s : ByteArray), (∀ q ∈ l, q.info.size ≤ 5000) → (l.foldl (fun s q => s ++ strB q) s).size ≤ s.size + 5005 * l.length := by
    intro l
    induction l with
    | nil => intro s _; simp
    | cons q l ih =>
      intro s hs
      rw [List.foldl_cons]
      have h1 := ih (s ++ strB q) (fun x hx => hs x (List.mem_cons_of_mem _ hx))
      have h2 := hs q List.mem_cons_self
      rw [ByteArray.size_append, size_strB] at h1
      rw [List.length_cons]; omega
  have := key l (topB cl info) h
  rw [size_topB] at this
  exact this
def okS (q : StrT) : Bool := inB q.kind 255 && inB q.pid 8191
def pmtR (pr ve cl : Int) (ss : List StrT) : Bool := (inB pr 65535 && (inB ve 31 && inB cl 8191)) && ss.all okS
theorem pmtR_snoc (pr ve cl : Int) (ss : List StrT) (q : StrT) : pmtR pr ve cl (ss ++ [q]) = (pmtR pr ve cl ss && okS q) := by
  unfold pmtR; rw [List.all_append]; simp [Bool.and_assoc]
def fullB (info : ByteArray) (ss : List StrT) : Bool := decide ((1024 : Int) < (info.size : Int)) || ss.any fun q => decide ((1024 : Int) < (q.info.size : Int))
theorem fullB_snoc (info : ByteArray) (ss : List StrT) (q : StrT) : fullB info (ss ++ [q]) = (fullB info ss || decide ((1024 : Int) < (q.info.size : Int))) := by
  unfold fullB; rw [List.any_append]; simp [Bool.or_assoc]
/-- What EncodePmt answers. -/
def encPmt (pr ve cl : Int) (info : ByteArray) (ss : List StrT) : ByteArray × Int :=
  if pmtR pr ve cl ss = false then (⟨#[]⟩, 15) else if ¬ (ss.map (·.pid)).Nodup then (⟨#[]⟩, 12) else if fullB info ss = true ∨ 1024 < (pmtB cl info ss).size then (⟨#[]⟩, 17) else tabF 2 pr ve (pmtB cl info ss)
set_option maxRecDepth 100000 in
set_option maxHeartbeats 8000000 in
theorem encodePmt_fn (pr ve cl : Int) (info : ByteArray) (ps : List StrT) (v : Value) (w : World) (hc : StrsV w v ps) (hn : ps.length ≤ 1000) (hI : info.size ≤ 5000) (hS : ∀ q ∈ ps, q.info.size ≤ 5000) :
    Calls Tryz.prog 15 #[.agg #[.int .i64 pr, .int .i64 ve, .int .i64 cl, .string info, v]] w (Ret (.tuple #[.string (encPmt pr ve cl info ps).1, .int .i64 (encPmt pr ve cl info ps).2]) w) := by
  have HPV := Lib.hid hc
  obtain ⟨ad, c, rfl, hlc, hc⟩ := hc
  have HC := Lib.hid hc
  have TB := Lib.hid (heap_alloc_new w (.cells #[.int .i64 pr, .int .i64 ve, .int .i64 cl, .string info, .slice ad ps.length c] 56))
  obtain ⟨zr, hzr⟩ : ∃ zr, zr = encPmt pr ve cl info ps := ⟨_, rfl⟩
  obtain ⟨zs, ze⟩ := zr
  rw [← hzr]
  have HZ := Lib.hid hzr
  have hin : ∀ n m W, Calls Tryz.prog 43 #[.int .i64 n, .int .i64 m] W (fun e w' => e = .returned (.bool (inB n m)) ∧ W = w') := fun n m W => within_any n m W
  have hpd : ∀ n W, Calls Tryz.prog 44 #[.int .i64 n] W (fun e w' => e = .returned (.bool (inB n 8191)) ∧ W = w') := fun n W => pid_any n W
  have HIN := Lib.hid hin; have HPD := Lib.hid hpd
  have HS5 := Lib.hid hS
  clear hc hzr hin hpd hS
  go_enter Tryz.func15, Tryz.ntmps15
  go_upto_region 1 with fail
  obtain ⟨W1, hW1⟩ : ∃ W1, W1 = w.alloc (.cells #[.int .i64 pr, .int .i64 ve, .int .i64 cl, .string info, .slice ad ps.length c] 56) := ⟨_, rfl⟩
  obtain ⟨B, hB⟩ : ∃ B, B = w.heap.size := ⟨_, rfl⟩
  have S1 := Lib.hid (show Same [] w W1 by rw [hW1]; exact (Same.refl [] w).alloc _)
  rw [← hW1, ← hB] at TB
  rw [← hW1, ← hB]
  clear hW1 hB
  have k0 := cell_of TB.out 0; have k1 := cell_of TB.out 1; have k2 := cell_of TB.out 2; have k3 := cell_of TB.out 3; have k4 := cell_of TB.out 4
  simp only [List.getElem?_toArray, List.getElem?_cons_zero, List.getElem?_cons_succ] at k0 k1 k2 k3 k4
  have hBl := heap_lt TB.out
  go_cut [4] (fun s4 wx => s4 = .bool (inB pr 65535 && (inB ve 31 && inB cl 8191)) ∧ wx = W1)
  case first =>
    by_cases h1 : inB pr 65535 = true
    · by_cases h3 : inB ve 31 = true
      · have h2 := h1; have h4 := h3
        go_wp2_with (first
          | (go_at_call 43; first | ((with_reducible refine (HIN.out pr 65535 _).mono ?_); rintro e w' ⟨rfl, rfl⟩; rw [h1]) | ((with_reducible refine (HIN.out ve 31 _).mono ?_); rintro e w' ⟨rfl, rfl⟩; rw [h3]))
          | (go_at_call 44; (with_reducible refine (HPD.out cl _).mono ?_); rintro e w' ⟨rfl, rfl⟩))
        go_meet
        exact ⟨by rw [h2, h4]; rfl, rfl⟩
      · have h2 := h1
        have h4 : inB ve 31 = false := by simpa using h3
        clear h3
        go_wp2_with (go_at_call 43; first | ((with_reducible refine (HIN.out pr 65535 _).mono ?_); rintro e w' ⟨rfl, rfl⟩; rw [h1]) | ((with_reducible refine (HIN.out ve 31 _).mono ?_); rintro e w' ⟨rfl, rfl⟩; rw [h4]))
        go_meet
        exact ⟨by rw [h2, h4]; rfl, rfl⟩
    · have h2 : inB pr 65535 = false := by simpa using h1
      clear h1
      go_wp2_with (go_at_call 43; ((with_reducible refine (HIN.out pr 65535 _).mono ?_); rintro e w' ⟨rfl, rfl⟩; rw [h2]))
      go_meet
      exact ⟨by rw [h2]; rfl, rfl⟩
  obtain ⟨rfl, rfl⟩ := hcut
  have hsa : ∀ a b : ByteArray, (a ++ b).size = a.size + b.size := fun a b => ByteArray.size_append
  have hb4 : ¬ 9223372036854775807 < 4 + info.size := by omega
  have hza := size_twoS (orP cl)
  have hzb := size_twoS (orL (info.size : Int))
  have hor : bits .or .i64 57344 cl = orP cl := rfl
  have hol : bits .or .i64 61440 (info.size : Int) = orL (info.size : Int) := rfl
  go_upto_region 3 with fail
  have K2 := Lib.hid k2; have K3 := Lib.hid k3
  go_cut [6] (fun s6 wx => s6 = .string (topB cl info) ∧ Same [] wc wx)
  case first =>
    have l0 : ∀ W, Same [] wc W → W.cell? ⟨B, 2, none⟩ = some (.int .i64 cl) ∧ W.cell? ⟨B, 3, none⟩ = some (.string info) := fun W h => ⟨h.cell K2.out (by simp), h.cell K3.out (by simp)⟩
    have L0 := Lib.hid l0
    clear l0
    go_region_held3 (fun W : World => Same [] wc W ∧ W.cell? ⟨B, 2, none⟩ = some (.int .i64 cl) ∧ W.cell? ⟨B, 3, none⟩ = some (.string info)) (first | assumption | exact ⟨Same.refl [] wc, L0.out _ (Same.refl [] wc)⟩ | exact ⟨(Same.refl [] wc).drew, L0.out _ (Same.refl [] wc).drew⟩ | exact ⟨Same.drew (And.left (by assumption)), L0.out _ (Same.drew (And.left (by assumption)))⟩ | exact ⟨S9.out, L0.out _ S9.out⟩ | exact ⟨S9.out.drew, L0.out _ S9.out.drew⟩) (first | (go_at_call 45; (with_reducible refine (two_any _ _).mono ?_); rintro e w9 ⟨rfl, s9⟩; have S9 := Lib.hid (show Same [] wc w9 from Same.trans_nil (And.left (by assumption)) s9); clear s9))
    all_goals go_wp2_with fail
    all_goals go_meet
    all_goals exact ⟨rfl, And.left (by assumption)⟩
  obtain ⟨rfl, hw3⟩ := hcut
  rename World => wz0
  have S3 := Lib.hid (S1.out.trans_nil hw3)
  have TB3 := Lib.hid (hw3.heap TB.out (by simp))
  clear hw3 k0 k1 k2 k3 k4 hza hzb hor hol
  have k0 := cell_of TB3.out 0; have k1 := cell_of TB3.out 1; have k2 := cell_of TB3.out 2; have k3 := cell_of TB3.out 3; have k4 := cell_of TB3.out 4
  simp only [List.getElem?_toArray, List.getElem?_cons_zero, List.getElem?_cons_succ] at k0 k1 k2 k3 k4
  go_wp2_with fail
  clear k0 k1 k2 k3 k4 hsa
  rename_i wc0 _ _ _
  go_loopw [42, 4, 5, 6] (fun i r f b wr => ∃ k : Nat, k ≤ ps.length ∧ i = .int .i64 k ∧ r = .bool (pmtR pr ve cl (ps.take k)) ∧ f = .bool (fullB info (ps.take k)) ∧ b = .string (pmtB cl info (ps.take k)) ∧ Same [] wz0 wr) (fun i _ _ _ _ => ps.length - (intOf i).toNat)
  case atStart => exact ⟨0, by omega, rfl, by unfold pmtR; simp, by unfold fullB; simp, rfl, Same.refl [] _⟩
  case round =>
    obtain ⟨k, hk, rfl, hr, hf, hb, hst0⟩ := hrel
    have hst := S3.out.trans_nil hst0
    by_cases hk1 : k < ps.length
    · have hk2 : (k : Int) < ps.length := by omega
      obtain ⟨a', rfl, hsp, e0, e1, e2⟩ := HC.out k hk1
      obtain ⟨g, off, sp⟩ := a'
      simp only at hsp e0 e1 e2
      subst hsp
      have c0 := hst.cell e0 (by simp)
      have c1 := hst.cell e1 (by simp)
      have c2 := hst.cell e2 (by simp)
      have htake : ps.take (k + 1) = ps.take k ++ [ps[k]] := List.take_succ_eq_append_getElem hk1
      have htk := pmtB_snoc cl info (ps.take k) ps[k]
      have hrk := pmtR_snoc pr ve cl (ps.take k) ps[k]
      have hfk := fullB_snoc info (ps.take k) ps[k]
      rw [← htake] at htk hrk hfk
      have hz0 : (pmtB cl info (ps.take k)).size ≤ 5100000 := by
        have := size_pmtB cl info (ps.take k) (fun q hq => HS5.out q (List.mem_of_mem_take hq))
        rw [List.length_take] at this
        omega
      have hz5 := HS5.out ps[k] (List.getElem_mem hk1)
      have hsb : strB ps[k] = oneS ps[k].kind ++ twoS (orP ps[k].pid) ++ twoS (orL (ps[k].info.size : Int)) ++ ps[k].info := rfl
      have hok : okS ps[k] = (inB ps[k].kind 255 && inB ps[k].pid 8191) := rfl
      rw [hsb] at htk
      rw [hok] at hrk
      obtain ⟨y, hy⟩ : ∃ y, y = ps[k].kind := ⟨_, rfl⟩
      obtain ⟨x, hx⟩ : ∃ x, x = ps[k].pid := ⟨_, rfl⟩
      obtain ⟨z, hz⟩ : ∃ z, z = ps[k].info := ⟨_, rfl⟩
      rw [← hx, ← hy, ← hz] at htk
      rw [← hx, ← hy] at hrk
      rw [← hz] at hfk hz5 c2
      rw [← hy] at c0
      rw [← hx] at c1
      clear e0 e1 e2 hx hy hz hok hsb htake
      obtain ⟨T, hT⟩ : ∃ T, T = pmtB cl info (ps.take k) := ⟨_, rfl⟩
      obtain ⟨rb, hrb⟩ : ∃ rb, rb = pmtR pr ve cl (ps.take k) := ⟨_, rfl⟩
      obtain ⟨fb, hfb⟩ : ∃ fb, fb = fullB info (ps.take k) := ⟨_, rfl⟩
      rw [← hT] at htk hz0 hb
      rw [← hrb] at hrk hr
      rw [← hfb] at hfk hf
      subst hr hb hf
      have HTK := Lib.hid htk; have HRK := Lib.hid hrk; have HFK := Lib.hid hfk; have HST := Lib.hid hst0
      clear htk hrk hfk hst hst0 hT hrb hfb
      go_upto_region 7 with fail
      have hb := heap_alloc_new wr (.cells #[.int .i64 y, .int .i64 x, .string z] 53)
      have HST2 := Lib.hid (HST.out.alloc (.cells #[.int .i64 y, .int .i64 x, .string z] 53))
      clear c0 c1 c2
      obtain ⟨G, hG⟩ : ∃ G, G = wr.heap.size := ⟨_, rfl⟩
      rw [← hG] at hb ⊢
      generalize wr.alloc (.cells #[.int .i64 y, .int .i64 x, .string z] 53) = wa at *
      clear hG
      have c0 := cell_of hb 0; have c1 := cell_of hb 1; have c2 := cell_of hb 2
      simp only [List.getElem?_toArray, List.getElem?_cons_zero, List.getElem?_cons_succ] at c0 c1 c2
      clear hb
      go_cut [4] (fun s4 wx => s4 = .bool (rb && (inB y 255 && inB x 8191)) ∧ wx = wa)
      case first =>
        cases rb with
        | false =>
          go_wp2_with fail
          go_meet
          exact ⟨rfl, rfl⟩
        | true =>
          by_cases h1 : inB y 255 = true
          · have h2 := h1
            go_wp2_with (first
              | (go_at_call 43; (with_reducible refine (HIN.out y 255 _).mono ?_); rintro e w' ⟨rfl, rfl⟩; rw [h1])
              | (go_at_call 44; (with_reducible refine (HPD.out x _).mono ?_); rintro e w' ⟨rfl, rfl⟩))
            go_meet
            exact ⟨by rw [h2]; rfl, rfl⟩
          · have h2 : inB y 255 = false := by simpa using h1
            clear h1
            go_wp2_with (go_at_call 43; (with_reducible refine (HIN.out y 255 _).mono ?_); rintro e w' ⟨rfl, rfl⟩; rw [h2])
            go_meet
            exact ⟨by rw [h2]; rfl, rfl⟩
      obtain ⟨rfl, rfl⟩ := hcut
      go_upto_region 8 with fail
      go_cut [5] (fun s5 wx => s5 = .bool (fb || decide ((1024 : Int) < (z.size : Int))) ∧ wx = wc)
      case first =>
        cases fb with
        | false =>
          go_wp2_with fail
          go_meet
          exact ⟨by simp, rfl⟩
        | true =>
          go_wp2_with fail
          go_meet
          exact ⟨rfl, rfl⟩
      obtain ⟨rfl, hwx⟩ := hcut
      rw [← hwx] at HST2 c0 c1 c2
      clear hwx
      go_upto_region 9 with fail
      have hsa : ∀ a b : ByteArray, (a ++ b).size = a.size + b.size := fun a b => ByteArray.size_append
      have hc1 := conv1
      have hb5 : ¬ 9223372036854775807 < 5 + z.size := by omega
      have hb6 : ¬ 9223372036854775807 < T.size + (5 + z.size) := by omega
      have hone : strOfNums [IntKind.u8.wrap y] = oneS y := rfl
      have hone2 : strOfNums [y % 256] = oneS y := rfl
      have hzc := size_oneS y
      have hza := size_twoS (orP x)
      have hzb := size_twoS (orL (z.size : Int))
      have hor : bits .or .i64 57344 x = orP x := rfl
      have hol : bits .or .i64 61440 (z.size : Int) = orL (z.size : Int) := rfl
      have C0 := Lib.hid c0; have C1 := Lib.hid c1; have C2 := Lib.hid c2
      have hGl : G < wc.heap.size := World.block_lt_of_cell? wc _ C0.out
      have HGL := Lib.hid hGl
      have S9 := Lib.hid (Same.refl [] wc)
      have l1 : ∀ W, Same [] wc W → (Same [] wc W ∧ W.cell? ⟨G, 0, none⟩ = some (.int .i64 y) ∧ W.cell? ⟨G, 1, none⟩ = some (.int .i64 x) ∧ W.cell? ⟨G, 2, none⟩ = some (.string z)) := fun W h => ⟨h, h.cell C0.out (by simp), h.cell C1.out (by simp), h.cell C2.out (by simp)⟩
      have L1 := Lib.hid l1
      clear l1
      refine wp_region_noPanic ?_
      refine wp_region_held_drew (S := (fun W : World => Same [] wc W ∧ W.cell? ⟨G, 0, none⟩ = some (.int .i64 y) ∧ W.cell? ⟨G, 1, none⟩ = some (.int .i64 x) ∧ W.cell? ⟨G, 2, none⟩ = some (.string z))) (by kernel_rfl) ?_ (fun hHeld => ?_)
      · (try dsimp only); (first | assumption | (refine L1.out _ ?_; repeat (first | exact S9.out | exact Same.refl _ _ | refine Same.drew ?_ | refine Same.alloc ?_ _)))
      all_goals (refine wpAnyH_take (i := 0) (oi := _) (v := ?_) (at_list _ _ _ rfl) (by kernel_rfl) (by kernel_rfl) (by decide +kernel) (fun _ _ _ h => h) (Or.inl ⟨by rfl, ?_⟩) (by assumption) ?_; rotate_left; (focus (intro w hSw; (try dsimp only at hSw); go_simp; (try with_reducible rfl); done)); (try simp only [Act.put, List.setIfInBounds_toArray, List.set_cons_zero, List.set_cons_succ]))
      all_goals (refine wpAnyH_take (i := 1) (oi := _) (v := ?_) (at_list _ _ _ rfl) (by kernel_rfl) (by kernel_rfl) (by decide +kernel) (fun _ _ _ h => h) (Or.inl ⟨by rfl, ?_⟩) (by assumption) ?_; rotate_left; (focus (intro w hSw; (try dsimp only at hSw); go_simp; (try with_reducible rfl); done)); (try simp only [Act.put, List.setIfInBounds_toArray, List.set_cons_zero, List.set_cons_succ]))
      all_goals (refine wpAnyH_take (i := 2) (oi := _) (v := ?_) (at_list _ _ _ rfl) (by kernel_rfl) (by kernel_rfl) (by decide +kernel) (fun _ _ _ h => h) (Or.inl ⟨by rfl, ?_⟩) (by assumption) ?_; rotate_left; (focus (intro w hSw; (try dsimp only at hSw); go_simp; (try with_reducible rfl); done)); (try simp only [Act.put, List.setIfInBounds_toArray, List.set_cons_zero, List.set_cons_succ]))
      all_goals (refine wpAnyH_take (i := 3) (oi := _) (v := ?_) (at_list _ _ _ rfl) (by kernel_rfl) (by kernel_rfl) (by decide +kernel) (fun _ _ _ h => h) (Or.inl ⟨by rfl, ?_⟩) (by assumption) ?_; rotate_left; (focus (intro w hSw; (try dsimp only at hSw); go_simp; (try with_reducible rfl); done)); (try simp only [Act.put, List.setIfInBounds_toArray, List.set_cons_zero, List.set_cons_succ]))
      all_goals (refine wpAnyH_take (i := 6) (oi := _) (v := ?_) (at_list _ _ _ rfl) (by kernel_rfl) (by kernel_rfl) (by decide +kernel) (fun _ _ _ h => h) (Or.inl ⟨by rfl, ?_⟩) (by assumption) ?_; rotate_left; (focus (intro w hSw; (try dsimp only at hSw); go_simp; (try with_reducible rfl); done)); (try simp only [Act.put, List.setIfInBounds_toArray, List.set_cons_zero, List.set_cons_succ]))
      all_goals (refine wpAnyH_take (i := 7) (oi := _) (v := ?_) (at_list _ _ _ rfl) (by kernel_rfl) (by kernel_rfl) (by decide +kernel) (fun _ _ _ h => h) (Or.inl ⟨by rfl, ?_⟩) (by assumption) ?_; rotate_left; (focus (intro w hSw; (try dsimp only at hSw); go_simp; (try with_reducible rfl); done)); (try simp only [Act.put, List.setIfInBounds_toArray, List.set_cons_zero, List.set_cons_succ]))
      all_goals (refine wpAnyH_take (i := 8) (oi := _) (v := ?_) (at_list _ _ _ rfl) (by kernel_rfl) (by kernel_rfl) (by decide +kernel) (fun _ _ _ h => h) (Or.inl ⟨by rfl, ?_⟩) (by assumption) ?_; rotate_left; (focus (intro w hSw; (try dsimp only at hSw); go_simp; (try with_reducible rfl); done)); (try simp only [Act.put, List.setIfInBounds_toArray, List.set_cons_zero, List.set_cons_succ]))
      all_goals (refine wpAnyH_take (i := 11) (oi := _) (v := ?_) (at_list _ _ _ rfl) (by kernel_rfl) (by kernel_rfl) (by decide +kernel) (fun _ _ _ h => h) (Or.inl ⟨by rfl, ?_⟩) (by assumption) ?_; rotate_left; (focus (intro w hSw; (try dsimp only at hSw); go_simp; (try with_reducible rfl); done)); (try simp only [Act.put, List.setIfInBounds_toArray, List.set_cons_zero, List.set_cons_succ]))
      all_goals (refine wpAnyH_take (i := 12) (oi := _) (v := ?_) (at_list _ _ _ rfl) (by kernel_rfl) (by kernel_rfl) (by decide +kernel) (fun _ _ _ h => h) (Or.inl ⟨by rfl, ?_⟩) (by assumption) ?_; rotate_left; (focus (intro w hSw; (try dsimp only at hSw); go_simp; (try with_reducible rfl); done)); (try simp only [Act.put, List.setIfInBounds_toArray, List.set_cons_zero, List.set_cons_succ]))
      all_goals (refine wpAnyH_take (i := 13) (oi := _) (v := ?_) (at_list _ _ _ rfl) (by kernel_rfl) (by kernel_rfl) (by decide +kernel) (fun _ _ _ h => h) (Or.inl ⟨by rfl, ?_⟩) (by assumption) ?_; rotate_left; (focus (intro w hSw; (try dsimp only at hSw); go_simp; (try with_reducible rfl); done)); (try simp only [Act.put, List.setIfInBounds_toArray, List.set_cons_zero, List.set_cons_succ]))
      all_goals (refine wpAnyH_take (i := 14) (oi := _) (v := ?_) (at_list _ _ _ rfl) (by kernel_rfl) (by kernel_rfl) (by decide +kernel) (fun _ _ _ h => h) (Or.inl ⟨by rfl, ?_⟩) (by assumption) ?_; rotate_left; (focus (intro w hSw; (try dsimp only at hSw); go_simp; (try with_reducible rfl); done)); (try simp only [Act.put, List.setIfInBounds_toArray, List.set_cons_zero, List.set_cons_succ]))
      all_goals (refine wpAnyH_take (i := 17) (oi := _) (v := ?_) (at_list _ _ _ rfl) (by kernel_rfl) (by kernel_rfl) (by decide +kernel) (fun _ _ _ h => h) (Or.inl ⟨by rfl, ?_⟩) (by assumption) ?_; rotate_left; (focus (intro w hSw; (try dsimp only at hSw); go_simp; (try with_reducible rfl); done)); (try simp only [Act.put, List.setIfInBounds_toArray, List.set_cons_zero, List.set_cons_succ]))
      all_goals (refine wpAnyH_take (i := 18) (oi := _) (v := ?_) (at_list _ _ _ rfl) (by kernel_rfl) (by kernel_rfl) (by decide +kernel) (fun _ _ _ h => h) (Or.inl ⟨by rfl, ?_⟩) (by assumption) ?_; rotate_left; (focus (intro w hSw; (try dsimp only at hSw); go_simp; (try with_reducible rfl); done)); (try simp only [Act.put, List.setIfInBounds_toArray, List.set_cons_zero, List.set_cons_succ]))
      all_goals (first | (refine wpAnyH_ready (rs := [4, 9]) (by decide +kernel) (by simp) ?_; refine AllReadyH.cons (i := 4) (at_list _ _ _ rfl) (fun K hK => ?_) (AllReadyH.cons (i := 9) (at_list _ _ _ rfl) (fun K hK => ?_) AllReadyH.nil)))
      all_goals (first | (go_simp; done) | (go_at_call 45; (with_reducible refine (two_any _ _).mono ?_); rintro e w9 ⟨rfl, s9⟩; obtain ⟨sc1, sc2⟩ := scell s9; have hz := s9.size; (try simp only [drew_heap, World.size_alloc] at hz sc1 sc2); have S9 := Lib.hid (show Same [] wc w9 from Same.trans_nil (by repeat (first | exact S9.out | exact Same.refl _ _ | refine Same.drew ?_ | refine Same.alloc ?_ _)) s9); have hG9 : G < w9.heap.size := Nat.lt_of_lt_of_le HGL.out S9.out.size; (try have hn9 := Nat.lt_of_succ_le hz); clear s9) | (go_simp; first | (go_at_call 45; (with_reducible refine (two_any _ _).mono ?_); rintro e w9 ⟨rfl, s9⟩; obtain ⟨sc1, sc2⟩ := scell s9; have hz := s9.size; (try simp only [drew_heap, World.size_alloc] at hz sc1 sc2); have S9 := Lib.hid (show Same [] wc w9 from Same.trans_nil (by repeat (first | exact S9.out | exact Same.refl _ _ | refine Same.drew ?_ | refine Same.alloc ?_ _)) s9); have hG9 : G < w9.heap.size := Nat.lt_of_lt_of_le HGL.out S9.out.size; (try have hn9 := Nat.lt_of_succ_le hz); clear s9) | skip))
      all_goals (refine hK.out _ _ ?_ (fun hHeld => ?_); (focus ((try dsimp only); (first | assumption | (refine L1.out _ ?_; repeat (first | exact S9.out | exact Same.refl _ _ | refine Same.drew ?_ | refine Same.alloc ?_ _))))); clear hK K; (try simp only [Act.put, List.setIfInBounds_toArray, List.set_cons_zero, List.set_cons_succ]))
      all_goals (repeat (first | (refine wpAnyH_take (i := 10) (oi := _) (v := ?_) (at_list _ _ _ rfl) (by kernel_rfl) (by kernel_rfl) (by decide +kernel) (fun _ _ _ h => h) (Or.inl ⟨by rfl, ?_⟩) (by assumption) ?_; rotate_left; (focus (intro w hSw; (try dsimp only at hSw); go_simp; (try with_reducible rfl); done)); (try simp only [Act.put, List.setIfInBounds_toArray, List.set_cons_zero, List.set_cons_succ])) | (refine wpAnyH_take (i := 16) (oi := _) (v := ?_) (at_list _ _ _ rfl) (by kernel_rfl) (by kernel_rfl) (by decide +kernel) (fun _ _ _ h => h) (Or.inl ⟨by rfl, ?_⟩) (by assumption) ?_; rotate_left; (focus (intro w hSw; (try dsimp only at hSw); go_simp; (try with_reducible rfl); done)); (try simp only [Act.put, List.setIfInBounds_toArray, List.set_cons_zero, List.set_cons_succ])) | (refine wpAnyH_take (i := 19) (oi := _) (v := ?_) (at_list _ _ _ rfl) (by kernel_rfl) (by kernel_rfl) (by decide +kernel) (fun _ _ _ h => h) (Or.inl ⟨by rfl, ?_⟩) (by assumption) ?_; rotate_left; (focus (intro w hSw; (try dsimp only at hSw); go_simp; (try with_reducible rfl); done)); (try simp only [Act.put, List.setIfInBounds_toArray, List.set_cons_zero, List.set_cons_succ])) | (refine wpAnyH_take (i := 20) (oi := _) (v := ?_) (at_list _ _ _ rfl) (by kernel_rfl) (by kernel_rfl) (by decide +kernel) (fun _ _ _ h => h) (Or.inl ⟨by rfl, ?_⟩) (by assumption) ?_; rotate_left; (focus (intro w hSw; (try dsimp only at hSw); go_simp; (try with_reducible rfl); done)); (try simp only [Act.put, List.setIfInBounds_toArray, List.set_cons_zero, List.set_cons_succ])) | (refine wpAnyH_take (i := 21) (oi := _) (v := ?_) (at_list _ _ _ rfl) (by kernel_rfl) (by kernel_rfl) (by decide +kernel) (fun _ _ _ h => h) (Or.inl ⟨by rfl, ?_⟩) (by assumption) ?_; rotate_left; (focus (intro w hSw; (try dsimp only at hSw); go_simp; (try with_reducible rfl); done)); (try simp only [Act.put, List.setIfInBounds_toArray, List.set_cons_zero, List.set_cons_succ]))))
      all_goals (first | (refine wpAnyH_ready (rs := [5, 9]) (by decide +kernel) (by simp) ?_; refine AllReadyH.cons (i := 5) (at_list _ _ _ rfl) (fun K hK => ?_) (AllReadyH.cons (i := 9) (at_list _ _ _ rfl) (fun K hK => ?_) AllReadyH.nil)) | (refine wpAnyH_ready (rs := [4, 15]) (by decide +kernel) (by simp) ?_; refine AllReadyH.cons (i := 4) (at_list _ _ _ rfl) (fun K hK => ?_) (AllReadyH.cons (i := 15) (at_list _ _ _ rfl) (fun K hK => ?_) AllReadyH.nil)))
      all_goals (first | (go_simp; done) | (go_at_call 45; (with_reducible refine (two_any _ _).mono ?_); rintro e w9 ⟨rfl, s9⟩; obtain ⟨sc1, sc2⟩ := scell s9; have hz := s9.size; (try simp only [drew_heap, World.size_alloc] at hz sc1 sc2); have S9 := Lib.hid (show Same [] wc w9 from Same.trans_nil (by repeat (first | exact S9.out | exact Same.refl _ _ | refine Same.drew ?_ | refine Same.alloc ?_ _)) s9); have hG9 : G < w9.heap.size := Nat.lt_of_lt_of_le HGL.out S9.out.size; (try have hn9 := Nat.lt_of_succ_le hz); clear s9) | (go_simp; first | (go_at_call 45; (with_reducible refine (two_any _ _).mono ?_); rintro e w9 ⟨rfl, s9⟩; obtain ⟨sc1, sc2⟩ := scell s9; have hz := s9.size; (try simp only [drew_heap, World.size_alloc] at hz sc1 sc2); have S9 := Lib.hid (show Same [] wc w9 from Same.trans_nil (by repeat (first | exact S9.out | exact Same.refl _ _ | refine Same.drew ?_ | refine Same.alloc ?_ _)) s9); have hG9 : G < w9.heap.size := Nat.lt_of_lt_of_le HGL.out S9.out.size; (try have hn9 := Nat.lt_of_succ_le hz); clear s9) | skip))
      all_goals (refine hK.out _ _ ?_ (fun hHeld => ?_); (focus ((try dsimp only); (first | assumption | (refine L1.out _ ?_; repeat (first | exact S9.out | exact Same.refl _ _ | refine Same.drew ?_ | refine Same.alloc ?_ _))))); clear hK K; (try simp only [Act.put, List.setIfInBounds_toArray, List.set_cons_zero, List.set_cons_succ]))
      all_goals (repeat (first | (refine wpAnyH_take (i := 10) (oi := _) (v := ?_) (at_list _ _ _ rfl) (by kernel_rfl) (by kernel_rfl) (by decide +kernel) (fun _ _ _ h => h) (Or.inl ⟨by rfl, ?_⟩) (by assumption) ?_; rotate_left; (focus (intro w hSw; (try dsimp only at hSw); go_simp; (try with_reducible rfl); done)); (try simp only [Act.put, List.setIfInBounds_toArray, List.set_cons_zero, List.set_cons_succ])) | (refine wpAnyH_take (i := 16) (oi := _) (v := ?_) (at_list _ _ _ rfl) (by kernel_rfl) (by kernel_rfl) (by decide +kernel) (fun _ _ _ h => h) (Or.inl ⟨by rfl, ?_⟩) (by assumption) ?_; rotate_left; (focus (intro w hSw; (try dsimp only at hSw); go_simp; (try with_reducible rfl); done)); (try simp only [Act.put, List.setIfInBounds_toArray, List.set_cons_zero, List.set_cons_succ])) | (refine wpAnyH_take (i := 19) (oi := _) (v := ?_) (at_list _ _ _ rfl) (by kernel_rfl) (by kernel_rfl) (by decide +kernel) (fun _ _ _ h => h) (Or.inl ⟨by rfl, ?_⟩) (by assumption) ?_; rotate_left; (focus (intro w hSw; (try dsimp only at hSw); go_simp; (try with_reducible rfl); done)); (try simp only [Act.put, List.setIfInBounds_toArray, List.set_cons_zero, List.set_cons_succ])) | (refine wpAnyH_take (i := 20) (oi := _) (v := ?_) (at_list _ _ _ rfl) (by kernel_rfl) (by kernel_rfl) (by decide +kernel) (fun _ _ _ h => h) (Or.inl ⟨by rfl, ?_⟩) (by assumption) ?_; rotate_left; (focus (intro w hSw; (try dsimp only at hSw); go_simp; (try with_reducible rfl); done)); (try simp only [Act.put, List.setIfInBounds_toArray, List.set_cons_zero, List.set_cons_succ])) | (refine wpAnyH_take (i := 21) (oi := _) (v := ?_) (at_list _ _ _ rfl) (by kernel_rfl) (by kernel_rfl) (by decide +kernel) (fun _ _ _ h => h) (Or.inl ⟨by rfl, ?_⟩) (by assumption) ?_; rotate_left; (focus (intro w hSw; (try dsimp only at hSw); go_simp; (try with_reducible rfl); done)); (try simp only [Act.put, List.setIfInBounds_toArray, List.set_cons_zero, List.set_cons_succ]))))
      all_goals (first | (refine wpAnyH_ready (rs := [9]) (by decide +kernel) (by simp) ?_; refine AllReadyH.cons (i := 9) (at_list _ _ _ rfl) (fun K hK => ?_) AllReadyH.nil) | (refine wpAnyH_ready (rs := [5, 15]) (by decide +kernel) (by simp) ?_; refine AllReadyH.cons (i := 5) (at_list _ _ _ rfl) (fun K hK => ?_) (AllReadyH.cons (i := 15) (at_list _ _ _ rfl) (fun K hK => ?_) AllReadyH.nil)) | (refine wpAnyH_ready (rs := [4]) (by decide +kernel) (by simp) ?_; refine AllReadyH.cons (i := 4) (at_list _ _ _ rfl) (fun K hK => ?_) AllReadyH.nil))
      all_goals (first | (go_simp; done) | (go_at_call 45; (with_reducible refine (two_any _ _).mono ?_); rintro e w9 ⟨rfl, s9⟩; obtain ⟨sc1, sc2⟩ := scell s9; have hz := s9.size; (try simp only [drew_heap, World.size_alloc] at hz sc1 sc2); have S9 := Lib.hid (show Same [] wc w9 from Same.trans_nil (by repeat (first | exact S9.out | exact Same.refl _ _ | refine Same.drew ?_ | refine Same.alloc ?_ _)) s9); have hG9 : G < w9.heap.size := Nat.lt_of_lt_of_le HGL.out S9.out.size; (try have hn9 := Nat.lt_of_succ_le hz); clear s9) | (go_simp; first | (go_at_call 45; (with_reducible refine (two_any _ _).mono ?_); rintro e w9 ⟨rfl, s9⟩; obtain ⟨sc1, sc2⟩ := scell s9; have hz := s9.size; (try simp only [drew_heap, World.size_alloc] at hz sc1 sc2); have S9 := Lib.hid (show Same [] wc w9 from Same.trans_nil (by repeat (first | exact S9.out | exact Same.refl _ _ | refine Same.drew ?_ | refine Same.alloc ?_ _)) s9); have hG9 : G < w9.heap.size := Nat.lt_of_lt_of_le HGL.out S9.out.size; (try have hn9 := Nat.lt_of_succ_le hz); clear s9) | skip))
      all_goals (refine hK.out _ _ ?_ (fun hHeld => ?_); (focus ((try dsimp only); (first | assumption | (refine L1.out _ ?_; repeat (first | exact S9.out | exact Same.refl _ _ | refine Same.drew ?_ | refine Same.alloc ?_ _))))); clear hK K; (try simp only [Act.put, List.setIfInBounds_toArray, List.set_cons_zero, List.set_cons_succ]))
      all_goals (repeat (first | (refine wpAnyH_take (i := 10) (oi := _) (v := ?_) (at_list _ _ _ rfl) (by kernel_rfl) (by kernel_rfl) (by decide +kernel) (fun _ _ _ h => h) (Or.inl ⟨by rfl, ?_⟩) (by assumption) ?_; rotate_left; (focus (intro w hSw; (try dsimp only at hSw); go_simp; (try with_reducible rfl); done)); (try simp only [Act.put, List.setIfInBounds_toArray, List.set_cons_zero, List.set_cons_succ])) | (refine wpAnyH_take (i := 16) (oi := _) (v := ?_) (at_list _ _ _ rfl) (by kernel_rfl) (by kernel_rfl) (by decide +kernel) (fun _ _ _ h => h) (Or.inl ⟨by rfl, ?_⟩) (by assumption) ?_; rotate_left; (focus (intro w hSw; (try dsimp only at hSw); go_simp; (try with_reducible rfl); done)); (try simp only [Act.put, List.setIfInBounds_toArray, List.set_cons_zero, List.set_cons_succ])) | (refine wpAnyH_take (i := 19) (oi := _) (v := ?_) (at_list _ _ _ rfl) (by kernel_rfl) (by kernel_rfl) (by decide +kernel) (fun _ _ _ h => h) (Or.inl ⟨by rfl, ?_⟩) (by assumption) ?_; rotate_left; (focus (intro w hSw; (try dsimp only at hSw); go_simp; (try with_reducible rfl); done)); (try simp only [Act.put, List.setIfInBounds_toArray, List.set_cons_zero, List.set_cons_succ])) | (refine wpAnyH_take (i := 20) (oi := _) (v := ?_) (at_list _ _ _ rfl) (by kernel_rfl) (by kernel_rfl) (by decide +kernel) (fun _ _ _ h => h) (Or.inl ⟨by rfl, ?_⟩) (by assumption) ?_; rotate_left; (focus (intro w hSw; (try dsimp only at hSw); go_simp; (try with_reducible rfl); done)); (try simp only [Act.put, List.setIfInBounds_toArray, List.set_cons_zero, List.set_cons_succ])) | (refine wpAnyH_take (i := 21) (oi := _) (v := ?_) (at_list _ _ _ rfl) (by kernel_rfl) (by kernel_rfl) (by decide +kernel) (fun _ _ _ h => h) (Or.inl ⟨by rfl, ?_⟩) (by assumption) ?_; rotate_left; (focus (intro w hSw; (try dsimp only at hSw); go_simp; (try with_reducible rfl); done)); (try simp only [Act.put, List.setIfInBounds_toArray, List.set_cons_zero, List.set_cons_succ]))))
      all_goals (first | (refine wpAnyH_ready (rs := [15]) (by decide +kernel) (by simp) ?_; refine AllReadyH.cons (i := 15) (at_list _ _ _ rfl) (fun K hK => ?_) AllReadyH.nil) | (refine wpAnyH_ready (rs := [5]) (by decide +kernel) (by simp) ?_; refine AllReadyH.cons (i := 5) (at_list _ _ _ rfl) (fun K hK => ?_) AllReadyH.nil))
      all_goals (first | (go_simp; done) | (go_at_call 45; (with_reducible refine (two_any _ _).mono ?_); rintro e w9 ⟨rfl, s9⟩; obtain ⟨sc1, sc2⟩ := scell s9; have hz := s9.size; (try simp only [drew_heap, World.size_alloc] at hz sc1 sc2); have S9 := Lib.hid (show Same [] wc w9 from Same.trans_nil (by repeat (first | exact S9.out | exact Same.refl _ _ | refine Same.drew ?_ | refine Same.alloc ?_ _)) s9); have hG9 : G < w9.heap.size := Nat.lt_of_lt_of_le HGL.out S9.out.size; (try have hn9 := Nat.lt_of_succ_le hz); clear s9) | (go_simp; first | (go_at_call 45; (with_reducible refine (two_any _ _).mono ?_); rintro e w9 ⟨rfl, s9⟩; obtain ⟨sc1, sc2⟩ := scell s9; have hz := s9.size; (try simp only [drew_heap, World.size_alloc] at hz sc1 sc2); have S9 := Lib.hid (show Same [] wc w9 from Same.trans_nil (by repeat (first | exact S9.out | exact Same.refl _ _ | refine Same.drew ?_ | refine Same.alloc ?_ _)) s9); have hG9 : G < w9.heap.size := Nat.lt_of_lt_of_le HGL.out S9.out.size; (try have hn9 := Nat.lt_of_succ_le hz); clear s9) | skip))
      all_goals (refine hK.out _ _ ?_ (fun hHeld => ?_); (focus ((try dsimp only); (first | assumption | (refine L1.out _ ?_; repeat (first | exact S9.out | exact Same.refl _ _ | refine Same.drew ?_ | refine Same.alloc ?_ _))))); clear hK K; (try simp only [Act.put, List.setIfInBounds_toArray, List.set_cons_zero, List.set_cons_succ]))
      all_goals (repeat (first | (refine wpAnyH_take (i := 10) (oi := _) (v := ?_) (at_list _ _ _ rfl) (by kernel_rfl) (by kernel_rfl) (by decide +kernel) (fun _ _ _ h => h) (Or.inl ⟨by rfl, ?_⟩) (by assumption) ?_; rotate_left; (focus (intro w hSw; (try dsimp only at hSw); go_simp; (try with_reducible rfl); done)); (try simp only [Act.put, List.setIfInBounds_toArray, List.set_cons_zero, List.set_cons_succ])) | (refine wpAnyH_take (i := 16) (oi := _) (v := ?_) (at_list _ _ _ rfl) (by kernel_rfl) (by kernel_rfl) (by decide +kernel) (fun _ _ _ h => h) (Or.inl ⟨by rfl, ?_⟩) (by assumption) ?_; rotate_left; (focus (intro w hSw; (try dsimp only at hSw); go_simp; (try with_reducible rfl); done)); (try simp only [Act.put, List.setIfInBounds_toArray, List.set_cons_zero, List.set_cons_succ])) | (refine wpAnyH_take (i := 19) (oi := _) (v := ?_) (at_list _ _ _ rfl) (by kernel_rfl) (by kernel_rfl) (by decide +kernel) (fun _ _ _ h => h) (Or.inl ⟨by rfl, ?_⟩) (by assumption) ?_; rotate_left; (focus (intro w hSw; (try dsimp only at hSw); go_simp; (try with_reducible rfl); done)); (try simp only [Act.put, List.setIfInBounds_toArray, List.set_cons_zero, List.set_cons_succ])) | (refine wpAnyH_take (i := 20) (oi := _) (v := ?_) (at_list _ _ _ rfl) (by kernel_rfl) (by kernel_rfl) (by decide +kernel) (fun _ _ _ h => h) (Or.inl ⟨by rfl, ?_⟩) (by assumption) ?_; rotate_left; (focus (intro w hSw; (try dsimp only at hSw); go_simp; (try with_reducible rfl); done)); (try simp only [Act.put, List.setIfInBounds_toArray, List.set_cons_zero, List.set_cons_succ])) | (refine wpAnyH_take (i := 21) (oi := _) (v := ?_) (at_list _ _ _ rfl) (by kernel_rfl) (by kernel_rfl) (by decide +kernel) (fun _ _ _ h => h) (Or.inl ⟨by rfl, ?_⟩) (by assumption) ?_; rotate_left; (focus (intro w hSw; (try dsimp only at hSw); go_simp; (try with_reducible rfl); done)); (try simp only [Act.put, List.setIfInBounds_toArray, List.set_cons_zero, List.set_cons_succ]))))
      all_goals refine wpAnyH_done (by decide +kernel) ?_ _
      all_goals refine NoPanic.normal ?_
      all_goals go_wp2_with fail
      all_goals go_roundw
      any_goals (case rel => exact ⟨k + 1, by omega, by go_num, by rw [HRK.out], by rw [HFK.out], by rw [HTK.out], HST2.out.trans_nil (by repeat (first | exact S9.out | exact Same.refl _ _ | refine Same.drew ?_ | refine Same.alloc ?_ _))⟩)
      all_goals (simp [intOf]; omega)
    · have hk2 : ¬ (k : Int) < ps.length := by omega
      obtain rfl : k = ps.length := by omega
      rw [List.take_of_length_le (Nat.le_refl _)] at hr hf hb
      have bx := hst0.heap TB3.out (by simp)
      have k0 := cell_of bx 0; have k1 := cell_of bx 1; have k2 := cell_of bx 2; have k3 := cell_of bx 3; have k4 := cell_of bx 4
      simp only [List.getElem?_toArray, List.getElem?_cons_zero, List.getElem?_cons_succ] at k0 k1 k2 k3 k4
      have hz := size_pmtB cl info ps HS5.out
      have hE := HZ.out
      unfold encPmt at hE
      obtain ⟨T, hT⟩ : ∃ T, T = pmtB cl info ps := ⟨_, rfl⟩
      rw [← hT] at hz hb hE
      obtain ⟨rb, hrb⟩ : ∃ rb, rb = pmtR pr ve cl ps := ⟨_, rfl⟩
      rw [← hrb] at hr hE
      obtain ⟨fb, hfb⟩ : ∃ fb, fb = fullB info ps := ⟨_, rfl⟩
      rw [← hfb] at hf hE
      subst hr hf hb
      have BX := Lib.hid bx; have HST := Lib.hid hst
      cases rb with
      | false =>
        rw [if_pos rfl] at hE
        injection hE with hE1 hE2
        subst hE1 hE2
        clear bx hst hst0 hz hrb hfb hT
        go_wp2_with fail
        go_ret2
        exact ⟨rfl, HST.out⟩
      | true =>
        rw [if_neg (by decide)] at hE
        have hall : (inB pr 65535 && (inB ve 31 && inB cl 8191)) = true ∧ ps.all okS = true := by
          have h := hrb.symm
          unfold pmtR at h
          rwa [Bool.and_eq_true] at h
        obtain ⟨hab, hps⟩ := hall
        rw [Bool.and_eq_true, Bool.and_eq_true] at hab
        obtain ⟨s0, s1⟩ := inB_true hab.1
        obtain ⟨v0, v1⟩ := inB_true hab.2.1
        have HTW := Lib.hid (twice_strs ps _ wr (HPV.out.same hst) (by omega) (fun p hp => by
          have h := List.all_eq_true.1 hps p hp
          unfold okS at h
          rw [Bool.and_eq_true] at h
          have := inB_true h.2
          exact WalkArith.wf_i64 (by omega)))
        unfold TwicePost at HTW
        by_cases hnd : (ps.map (·.pid)).Nodup
        · rw [if_neg (fun h => h hnd)] at hE
          have hdn : (!decide (ps.map (·.pid)).Nodup) = false := by simp [hnd]
          rw [hdn] at HTW
          cases fb with
          | true =>
            rw [if_pos (Or.inl rfl)] at hE
            injection hE with hE1 hE2
            subst hE1 hE2
            clear bx hst hst0 hz hrb hfb hT hps hab hnd hdn
            go_wp2_with fail
            (with_reducible refine HTW.out.mono ?_)
            rintro e w2 ⟨rfl, s2⟩
            have S2 := Lib.hid (HST.out.trans_nil s2)
            clear s2
            go_wp2_with fail
            go_ret2
            exact ⟨rfl, S2.out⟩
          | false =>
            by_cases h4 : 1024 < T.size
            · rw [if_pos (Or.inr h4)] at hE
              injection hE with hE1 hE2
              subst hE1 hE2
              have h5 : (1024 : Int) < (T.size : Int) := by omega
              clear bx hst hst0 hz hrb hfb hT hps hab hnd hdn h4
              go_wp2_with fail
              (with_reducible refine HTW.out.mono ?_)
              rintro e w2 ⟨rfl, s2⟩
              have S2 := Lib.hid (HST.out.trans_nil s2)
              clear s2
              go_wp2_with fail
              go_ret2
              exact ⟨rfl, S2.out⟩
            · rw [if_neg (by simp [h4])] at hE
              have h5 : ¬ (1024 : Int) < (T.size : Int) := by omega
              have HS := Lib.hid (fun W => sealed_fn 2 pr ve T W ⟨by omega, by omega, s0, by omega, v0, by omega, by omega, by omega, by omega, by omega⟩)
              rw [← hE] at HS
              clear bx hst hst0 hz hrb hfb hT hps hab hnd hdn h4 hE
              go_wp2_with fail
              (with_reducible refine HTW.out.mono ?_)
              rintro e w2 ⟨rfl, s2⟩
              have bx := s2.heap BX.out (by simp)
              have S2 := Lib.hid (HST.out.trans_nil s2)
              clear s2 k0 k1 k2 k3 k4
              have k0 := cell_of bx 0; have k1 := cell_of bx 1; have k2 := cell_of bx 2; have k3 := cell_of bx 3; have k4 := cell_of bx 4
              simp only [List.getElem?_toArray, List.getElem?_cons_zero, List.getElem?_cons_succ] at k0 k1 k2 k3 k4
              clear bx
              go_wp2_with fail
              (with_reducible refine (HS.out _).mono ?_)
              rintro e w3 ⟨rfl, s3⟩
              have S3 := Lib.hid (S2.out.trans_nil s3)
              clear s3
              go_wp2_with fail
              go_ret2
              exact ⟨rfl, S3.out⟩
        · rw [if_pos hnd] at hE
          injection hE with hE1 hE2
          subst hE1 hE2
          have hdn : (!decide (ps.map (·.pid)).Nodup) = true := by simp [hnd]
          rw [hdn] at HTW
          clear bx hst hst0 hz hrb hfb hT hps hab hnd hdn
          go_wp2_with fail
          (with_reducible refine HTW.out.mono ?_)
          rintro e w2 ⟨rfl, s2⟩
          have S2 := Lib.hid (HST.out.trans_nil s2)
          clear s2
          go_wp2_with fail
          go_ret2
          exact ⟨rfl, S2.out⟩
end Go.Proofs.YtpkpfebhdgbgbaaGreatDoor.S
