/- A table that was encoded is parted again as it was. Plain; the conditions are those of Encode. -/
import Derived.Test.YtabglpkoklajlaaPo2
namespace Go.Proofs.Ytabglpkoklajlaa
open Go.RowKit
set_option linter.unusedSimpArgs false
set_option linter.unusedVariables false

theorem ext_none (a : ByteArray) (i j : Nat) (h : a.size ≤ i) : a.extract i j = ByteArray.empty := by
  refine ByteArray.ext ?_
  rw [ByteArray.data_extract]
  exact Array.extract_empty_of_size_le_start h
theorem ext_behind (a b : ByteArray) (n : Nat) (h : a.size = n) : (a ++ b).extract n (a ++ b).size = b := by
  subst h
  rw [ByteArray.extract_append, ext_none a _ _ (Nat.le_refl _), Nat.sub_self, ByteArray.size_append, Nat.add_sub_cancel_left, ByteArray.extract_zero_size]
  exact ByteArray.empty_append
theorem ext_mid (a b c : ByteArray) (n m : Nat) (h : a.size = n) (h2 : a.size + b.size = m) : (a ++ (b ++ c)).extract n m = b := by
  subst h; subst h2
  rw [ByteArray.extract_append, ext_none a _ _ (Nat.le_refl _), Nat.sub_self, Nat.add_sub_cancel_left, ByteArray.extract_append, ByteArray.extract_zero_size, Nat.zero_sub, Nat.sub_self, show c.extract 0 0 = ByteArray.empty from ByteArray.ext (by rw [ByteArray.data_extract]; exact Array.extract_empty_of_stop_le_start (Nat.le_refl _)), ByteArray.append_empty]
  exact ByteArray.empty_append
theorem two_bytes (n : Int) (h0 : 0 ≤ n) (h1 : n < 65536) (R : ByteArray) : ((pairN (twoS n ++ R) : Nat) : Int) = n := by
  unfold pairN
  have hz := size_twoS n
  rw [byteOf_app_l _ _ _ (by omega), byteOf_app_l _ _ _ (by omega)]
  unfold twoS
  have hl : ∀ x, x ∈ [(n / 256 % 256).toNat, (n % 256).toNat] → x < 256 := by
    intro x hx
    simp only [List.mem_cons, List.not_mem_nil, or_false] at hx
    rcases hx with rfl | rfl <;> omega
  rw [byteOf_strOf _ _ hl, byteOf_strOf _ _ hl]
  show (((n / 256 % 256).toNat * 256 + (n % 256).toNat : Nat) : Int) = n
  omega
theorem orP_eq (p : Int) (h0 : 0 ≤ p) (h1 : p ≤ 8191) : orP p = 57344 + p := or_pid p h0 h1
theorem orL_eq (n : Nat) (h : n < 4096) : orL (n : Int) = 61440 + n := by
  have hk : ∀ n : Int, 0 ≤ n → n < 2 ^ 16 → IntKind.i64.wrap n = n := fun n a b => by rw [IntKind.wrap_i64]; omega
  have h1 := (bits_nat .i64 16 (by decide) hk 61440 n (by omega) (by omega)).2
  unfold orL
  rw [show (61440 : Int) = ((61440 : Nat) : Int) from rfl, h1]
  have e : 61440 ||| n = 2 ^ 12 * 15 + n := by rw [show (61440 : Nat) = 2 ^ 12 * 15 from rfl, ← Nat.two_pow_add_eq_or_of_lt (by omega : n < 2 ^ 12) 15]
  rw [e]; omega
/-- An entry that was written is read again. -/
theorem entP_back (l : List (Int × Int)) (p : Int × Int) (h : okP p = true) (R : ByteArray) : entP (patB l ++ ((twoS p.1 ++ twoS (orP p.2)) ++ R)) l.length = p := by
  unfold okP at h
  rw [Bool.and_eq_true] at h
  obtain ⟨a0, a1⟩ := inB_true h.1
  obtain ⟨b0, b1⟩ := inB_true h.2
  obtain ⟨x, y⟩ := p
  have a0 : 0 ≤ x := a0; have a1 : x ≤ 65535 := a1; have b0 : 0 ≤ y := b0; have b1 : y ≤ 8191 := b1
  have ho := orP_eq y b0 b1
  show entP (patB l ++ ((twoS x ++ twoS (orP y)) ++ R)) l.length = (x, y)
  rw [ho]
  have e : ∀ i, byteOf (patB l ++ ((twoS x ++ twoS (57344 + y)) ++ R)) (4 * l.length + i) = byteOf (twoS x ++ (twoS (57344 + y) ++ R)) i := fun i => by
    rw [← size_patB l, byteOf_app_r, ByteArray.append_assoc]
  unfold entP
  have e0 := e 0
  rw [Nat.add_zero] at e0
  rw [e0, e 1, e 2, e 3]
  have hz := size_twoS x
  have h1 := two_bytes x a0 (by omega) (twoS (57344 + y) ++ R)
  have h2 := two_bytes (57344 + y) (by omega) (by omega) R
  have e2 := byteOf_app_r (twoS x) (twoS (57344 + y) ++ R) 0
  have e3 := byteOf_app_r (twoS x) (twoS (57344 + y) ++ R) 1
  rw [hz] at e2 e3
  unfold pairN at h1 h2
  rw [show 2 + 0 = 2 from rfl] at e2
  rw [show 2 + 1 = 3 from rfl] at e3
  rw [e2, e3]
  have g2 : (((byteOf (twoS (57344 + y) ++ R) 0 * 256 + byteOf (twoS (57344 + y) ++ R) 1) % 8192 : Nat) : Int) = y := by omega
  rw [h1, g2]
theorem entsP_front (a b : ByteArray) (k : Nat) (h : 4 * k ≤ a.size) : entsP (a ++ b) k = entsP a k := by
  unfold entsP
  refine List.map_congr_left fun i hi => ?_
  rw [List.mem_range] at hi
  unfold entP
  rw [byteOf_app_l _ _ _ (by omega), byteOf_app_l _ _ _ (by omega), byteOf_app_l _ _ _ (by omega), byteOf_app_l _ _ _ (by omega)]
theorem entsP_patB : ∀ (n : Nat) (l : List (Int × Int)), l.length = n → l.all okP = true → entsP (patB l) l.length = l := by
  intro n
  induction n with
  | zero =>
    intro l hl _
    obtain rfl := List.eq_nil_of_length_eq_zero hl
    rfl
  | succ n ih =>
    intro l hl ha
    rcases List.eq_nil_or_concat l with rfl | ⟨L, p, rfl⟩
    · simp at hl
    · rw [List.concat_eq_append] at *
      rw [List.length_append, List.length_singleton] at hl
      rw [List.all_append, Bool.and_eq_true] at ha
      have hp : okP p = true := by simpa using ha.2
      rw [List.length_append, List.length_singleton, entsP_succ, patB_snoc, entsP_front _ _ _ (by rw [size_patB]; omega), ih L (by omega) ha.1]
      have := entP_back L p hp ⟨#[]⟩
      rw [show (twoS p.1 ++ twoS (orP p.2)) ++ (⟨#[]⟩ : ByteArray) = twoS p.1 ++ twoS (orP p.2) from ByteArray.append_empty] at this
      rw [this]
/-- What EncodePat answered is what DecodePat asks for. -/
theorem pat_back {st ve : Int} {ps : List (Int × Int)} {s : ByteArray} (h : encPat st ve ps = (s, 0)) :
    openedE s 0 = 0 ∧ openedE s 2 = 14 ∧ ((numFrom (openS s) 24 16 : Nat) : Int) = st ∧ ((numFrom (openS s) 42 5 : Nat) : Int) = ve ∧ (bodyS (openS s)).size % 4 = 0 ∧
    entsP (bodyS (openS s)) ((bodyS (openS s)).size / 4) = ps ∧ s.size ≤ 1024 := by
  unfold encPat at h
  split at h
  · injection h with h1 h2; cases h2
  · rename_i hr
    split at h
    · injection h with h1 h2; cases h2
    · split at h
      · injection h with h1 h2; cases h2
      · unfold tabF at h
        split at h
        · rename_i hb
          injection h with h1 h2
          have hr : patR st ve ps = true := by simpa using hr
          unfold patR at hr
          rw [Bool.and_eq_true, Bool.and_eq_true] at hr
          obtain ⟨⟨r1, r2⟩, r3⟩ := hr
          obtain ⟨s0, s1⟩ := inB_true r1
          obtain ⟨v0, v1⟩ := inB_true r2
          have hok : SecOk 0 st ve 0 0 (patB ps) := ⟨by decide, by decide, s0, by omega, v0, by omega, by decide, by decide, by decide, by omega⟩
          obtain ⟨o1, o2⟩ := tab_opened 0 st ve (patB ps) hok hb
          obtain ⟨n1, n2, n3, n4, n5, n6, n7, n8, n9, n10, n11⟩ := tab_nums 0 st ve (patB ps) hok
          have hz := sealS_size (tabS 0 st ve (patB ps))
          have hz2 := size_tabS 0 st ve (patB ps)
          have q1 := o1 0; have q2 := o1 2
          rw [if_pos rfl] at q1
          rw [if_neg (by decide)] at q2
          rw [h1] at q1 q2 o2 hz
          rw [o2, n6, n8, n11, size_patB]
          refine ⟨q1, q2, by omega, by omega, by omega, ?_, by omega⟩
          rw [show 4 * ps.length / 4 = ps.length by omega]
          exact entsP_patB ps.length ps rfl r3
        · injection h with h1 h2; cases h2
/-- The streams' bytes. -/
def restB : List StrT → ByteArray
  | [] => ⟨#[]⟩
  | q :: l => strB q ++ restB l
theorem pmtB_rest (cl : Int) (info : ByteArray) (l : List StrT) : pmtB cl info l = topB cl info ++ restB l := by
  have key : ∀ (l : List StrT) (s : ByteArray), l.foldl (fun s q => s ++ strB q) s = s ++ restB l := by
    intro l
    induction l with
    | nil => intro s; exact (ByteArray.append_empty).symm
    | cons q l ih => intro s; rw [List.foldl_cons, ih, restB, ByteArray.append_assoc]
  exact key l _
/-- An Info that was written is parted off again. -/
theorem info_back (i R : ByteArray) (h : i.size ≤ 1024) : infoS (twoS (orL (i.size : Int)) ++ (i ++ R)) = i ∧ infoR (twoS (orL (i.size : Int)) ++ (i ++ R)) = R ∧ infoOk (twoS (orL (i.size : Int)) ++ (i ++ R)) = true := by
  have ho := orL_eq i.size (by omega)
  have hz := size_twoS (orL (i.size : Int))
  have hp := two_bytes (orL (i.size : Int)) (by omega) (by omega) (i ++ R)
  have hl : infoLen (twoS (orL (i.size : Int)) ++ (i ++ R)) = i.size := by unfold infoLen; omega
  have hk : infoOk (twoS (orL (i.size : Int)) ++ (i ++ R)) = true := by
    unfold infoOk
    rw [hl, ByteArray.size_append, ByteArray.size_append, hz]
    exact decide_eq_true (by omega)
  refine ⟨?_, ?_, hk⟩
  · unfold infoS
    rw [if_pos hk, hl]
    exact ext_mid _ _ _ _ _ hz (by omega)
  · unfold infoR
    rw [if_pos hk, hl, ← ByteArray.append_assoc]
    exact ext_behind _ _ _ (by rw [ByteArray.size_append]; omega)
theorem head_back (cl : Int) (info R : ByteArray) (h0 : 0 ≤ cl) (h1 : cl ≤ 8191) (h : info.size ≤ 1024) :
    headCl (topB cl info ++ R) = cl ∧ headInfo (topB cl info ++ R) = info ∧ headOk (topB cl info ++ R) = true ∧ headRest (topB cl info ++ R) = R := by
  have hz : 4 ≤ (topB cl info ++ R).size := by rw [ByteArray.size_append, size_topB]; omega
  have hs : topB cl info ++ R = twoS (orP cl) ++ (twoS (orL (info.size : Int)) ++ (info ++ R)) := by unfold topB; simp only [ByteArray.append_assoc]
  have hx : (topB cl info ++ R).extract 2 (topB cl info ++ R).size = twoS (orL (info.size : Int)) ++ (info ++ R) := by rw [hs]; exact ext_behind _ _ _ (size_twoS _)
  obtain ⟨i1, i2, i3⟩ := info_back info R h
  have ho := orP_eq cl h0 h1
  have hp := two_bytes (orP cl) (by omega) (by omega) (twoS (orL (info.size : Int)) ++ (info ++ R))
  refine ⟨?_, ?_, ?_, ?_⟩
  · unfold headCl; rw [if_pos hz, hs]; omega
  · unfold headInfo; rw [if_pos hz, hx, i1]
  · unfold headOk; rw [if_pos hz, hx, i3]
  · unfold headRest; rw [if_pos hz, hx, i2]
theorem stream_back (q : StrT) (R : ByteArray) (h : okS q = true) (hi : q.info.size ≤ 1024) :
    5 ≤ (strB q ++ R).size ∧ oneStr (strB q ++ R) = q ∧ infoR ((strB q ++ R).extract 3 (strB q ++ R).size) = R ∧ infoOk ((strB q ++ R).extract 3 (strB q ++ R).size) = true := by
  have hz : 5 ≤ (strB q ++ R).size := by rw [ByteArray.size_append, size_strB]; omega
  unfold okS at h
  rw [Bool.and_eq_true] at h
  obtain ⟨a0, a1⟩ := inB_true h.1
  obtain ⟨b0, b1⟩ := inB_true h.2
  have hs : strB q ++ R = oneS q.kind ++ (twoS (orP q.pid) ++ (twoS (orL (q.info.size : Int)) ++ (q.info ++ R))) := by unfold strB; simp only [ByteArray.append_assoc]
  have hs3 : strB q ++ R = (oneS q.kind ++ twoS (orP q.pid)) ++ (twoS (orL (q.info.size : Int)) ++ (q.info ++ R)) := by unfold strB; simp only [ByteArray.append_assoc]
  have hx1 : (strB q ++ R).extract 1 (strB q ++ R).size = twoS (orP q.pid) ++ (twoS (orL (q.info.size : Int)) ++ (q.info ++ R)) := by rw [hs]; exact ext_behind _ _ _ (size_oneS _)
  have hx3 : (strB q ++ R).extract 3 (strB q ++ R).size = twoS (orL (q.info.size : Int)) ++ (q.info ++ R) := by rw [hs3]; exact ext_behind _ _ _ (by rw [ByteArray.size_append, size_oneS, size_twoS])
  have hb : ((byteOf (strB q ++ R) 0 : Nat) : Int) = q.kind := by
    rw [hs, byteOf_app_l _ _ _ (by rw [size_oneS]; omega)]
    unfold oneS
    show ((byteOf (strOfNums [q.kind % 256]) 0 : Nat) : Int) = q.kind
    simp [byteOf, strOfNums]
    omega
  obtain ⟨i1, i2, i3⟩ := info_back q.info R hi
  have ho := orP_eq q.pid b0 b1
  have hp := two_bytes (orP q.pid) (by omega) (by omega) (twoS (orL (q.info.size : Int)) ++ (q.info ++ R))
  have hpid : ((pairN ((strB q ++ R).extract 1 (strB q ++ R).size) % 8192 : Nat) : Int) = q.pid := by rw [hx1]; omega
  refine ⟨hz, ?_, by rw [hx3]; exact i2, by rw [hx3]; exact i3⟩
  unfold oneStr
  rw [hb, hpid, hx3, i1]
theorem nextP_eq (b : ByteArray) (l : List StrT) : nextP (b, true, l) = (infoR (b.extract 3 b.size), infoOk (b.extract 3 b.size), l ++ [oneStr b]) := by unfold nextP; dsimp only
theorem stP_rest (ss : List StrT) (ha : ss.all okS = true) (hi : ∀ q ∈ ss, q.info.size ≤ 1024) : ∀ k, k ≤ ss.length → stP (restB ss, true, []) k = (restB (ss.drop k), true, ss.take k) := by
  intro k
  induction k with
  | zero => intro _; rfl
  | succ k ih =>
    intro hk
    have e := ih (by omega)
    have hd : ss.drop k = ss[k] :: ss.drop (k + 1) := List.drop_eq_getElem_cons (by omega)
    rw [hd] at e
    have hq : okS ss[k] = true := by rw [List.all_eq_true] at ha; exact ha _ (List.getElem_mem (by omega))
    obtain ⟨s1, s2, s3, s4⟩ := stream_back ss[k] (restB (ss.drop (k + 1))) hq (hi _ (List.getElem_mem (by omega)))
    have e : stP (restB ss, true, []) k = (strB ss[k] ++ restB (ss.drop (k + 1)), true, ss.take k) := e
    have hg : goOn (stP (restB ss, true, []) k) = true := by
      rw [e]
      unfold goOn
      dsimp only
      rw [decide_eq_true s1]; rfl
    rw [stP_next hg, e, nextP_eq, s2, s3, s4, List.take_succ_eq_append_getElem (by omega)]
theorem restB_size : ∀ ss : List StrT, 5 * ss.length ≤ (restB ss).size
  | [] => Nat.zero_le _
  | q :: l => by
    have := restB_size l
    rw [restB, ByteArray.size_append, size_strB, List.length_cons]; omega
theorem fin_back (ss : List StrT) (ha : ss.all okS = true) (hi : ∀ q ∈ ss, q.info.size ≤ 1024) : finP (restB ss) true = (⟨#[]⟩, true, ss) := by
  have h := stP_rest ss ha hi ss.length (Nat.le_refl _)
  rw [List.drop_length, List.take_length] at h
  rw [finP_eq (k := ss.length) (by rw [h]; rfl) (restB_size ss), h]
  rfl
theorem full_info {info : ByteArray} {ss : List StrT} (h : ¬ fullB info ss = true) : info.size ≤ 1024 ∧ ∀ q ∈ ss, q.info.size ≤ 1024 := by
  have h1 : fullB info ss = false := by simpa using h
  unfold fullB at h1
  rw [Bool.or_eq_false_iff] at h1
  obtain ⟨h2, h3⟩ := h1
  refine ⟨?_, fun q hq => ?_⟩
  · have := of_decide_eq_false h2; omega
  · have h4 := List.any_eq_false.1 h3 q hq
    have h5 : ¬ ((1024 : Int) < (q.info.size : Int)) := by simpa using h4
    omega
/-- What EncodePmt answered is what DecodePmt asks for. -/
theorem pmt_back {pr ve cl : Int} {info : ByteArray} {ss : List StrT} {s : ByteArray} (h : encPmt pr ve cl info ss = (s, 0)) :
    openedE s 2 = 0 ∧ openedE s 0 = 14 ∧ ((numFrom (openS s) 24 16 : Nat) : Int) = pr ∧ ((numFrom (openS s) 42 5 : Nat) : Int) = ve ∧ headCl (bodyS (openS s)) = cl ∧ headInfo (bodyS (openS s)) = info ∧
    pmtWell (bodyS (openS s)) ∧ (pmtFin (bodyS (openS s))).2.2 = ss ∧ s.size ≤ 1024 := by
  unfold encPmt at h
  split at h
  · injection h with h1 h2; cases h2
  · rename_i hr
    split at h
    · injection h with h1 h2; cases h2
    · split at h
      · injection h with h1 h2; cases h2
      · rename_i hf
        unfold tabF at h
        split at h
        · rename_i hb
          injection h with h1 h2
          obtain ⟨g1, g2⟩ := full_info (fun hh => hf (.inl hh))
          have hr : pmtR pr ve cl ss = true := by simpa using hr
          unfold pmtR at hr
          rw [Bool.and_eq_true, Bool.and_eq_true, Bool.and_eq_true] at hr
          obtain ⟨⟨r1, r2, r4⟩, r3⟩ := hr
          obtain ⟨s0, s1⟩ := inB_true r1
          obtain ⟨v0, v1⟩ := inB_true r2
          obtain ⟨c0, c1⟩ := inB_true r4
          have hok : SecOk 2 pr ve 0 0 (pmtB cl info ss) := ⟨by decide, by decide, s0, by omega, v0, by omega, by decide, by decide, by decide, by omega⟩
          obtain ⟨o1, o2⟩ := tab_opened 2 pr ve (pmtB cl info ss) hok hb
          obtain ⟨n1, n2, n3, n4, n5, n6, n7, n8, n9, n10, n11⟩ := tab_nums 2 pr ve (pmtB cl info ss) hok
          have hz := sealS_size (tabS 2 pr ve (pmtB cl info ss))
          have hz2 := size_tabS 2 pr ve (pmtB cl info ss)
          have q1 := o1 2; have q2 := o1 0
          rw [if_pos rfl] at q1
          rw [if_neg (by decide)] at q2
          rw [h1] at q1 q2 o2 hz
          rw [o2, n6, n8, n11]
          rw [pmtB_rest] at *
          obtain ⟨e1, e2, e3, e4⟩ := head_back cl info (restB ss) c0 c1 g1
          have hfin : pmtFin (topB cl info ++ restB ss) = (⟨#[]⟩, true, ss) := by unfold pmtFin; rw [e3, e4]; exact fin_back ss r3 g2
          unfold pmtWell
          rw [hfin]
          exact ⟨q1, q2, by omega, by omega, e1, e2, ⟨rfl, rfl⟩, rfl, by omega⟩
        · injection h with h1 h2; cases h2
end Go.Proofs.Ytabglpkoklajlaa
