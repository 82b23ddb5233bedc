/- The chapter's example (awake), and few sections (Few). No condition. -/
import Derived.Test.YtpnbhgmcfooppaaDoorDPq4
import Derived.Test.YtpnbhgmcfooppaaDoorDMd1
import Derived.Test.YtpnbhgmcfooppaaDoorDBd7
import Derived.Deep.RegionHeld3
namespace Go.Proofs.YtpnbhgmcfooppaaDoor
open Go.RowKit
set_option linter.unusedSimpArgs false
set_option linter.unusedVariables false

theorem good_madeC (body : ByteArray) (hb : body.size ≤ 4084) : Good (madeC body) := good_made body _ (size_sum _) hb
theorem size_madeC (body : ByteArray) : (madeC body).size = body.size + 12 := by
  unfold madeC
  rw [ByteArray.size_append, ByteArray.size_append, size_sum, show (hdrS body.size).size = 8 from size_strOf _]; omega
/-- One small section is one packet. -/
theorem pack_one (M : ByteArray) (h0 : 0 < M.size) (h1 : M.size ≤ 183) : packG (catL [M]).size ⟨#[]⟩ [M] = [(true, fillG (strOfNums [0] ++ M))] := by
  have hc : catL [M] = M := catL_one M
  rw [hc]
  obtain ⟨k, hk⟩ : ∃ k, M.size = k + 1 := ⟨M.size - 1, by omega⟩
  have hn : (⟨#[]⟩ ++ catL [M] : ByteArray) = M := by rw [nil_append, hc]
  rw [hk, pack_begin k (by rw [hn]; omega) (by show ¬ 183 ≤ 0; omega) (fun h => h.1 rfl), hn, Nat.min_eq_right h1, extract_whole]
  have ha : advG [M] (M.size - (⟨#[]⟩ : ByteArray).size) = (⟨#[]⟩, []) := by
    show advG [M] (M.size - 0) = _
    rw [advG, if_neg (by omega), if_neg (by omega)]; rfl
  rw [ha, pack_nil k (by rfl)]
  rfl

def fewF (L : List ByteArray) : Bool := L.all (fun s => decide (s.size ≤ 1500)) && decide (L.length ≤ 20)
theorem fewF_yes {L : List ByteArray} (h : fewF L = true) : (∀ x ∈ L, x.size ≤ 1500) ∧ L.length ≤ 20 := by
  simpa [fewF] using h
theorem byteOf_right (a b : ByteArray) (i : Nat) (h : a.size ≤ i) : byteOf (a ++ b) i = byteOf b (i - a.size) := by
  have h1 : a.data.toList.length ≤ i := by rw [Array.length_toList]; exact h
  simp only [byteOf, ByteArray.data_append, Array.toList_append, List.getD_eq_getElem?_getD]
  rw [List.getElem?_append_right h1]; rfl
theorem byteOf_stuffs (m i : Nat) (h : i < m) : byteOf (stuffOf m) i = 255 := by
  simp [byteOf, stuffOf, List.getD_eq_getElem?_getD, List.getElem?_replicate, h]

set_option maxRecDepth 100000 in
set_option maxHeartbeats 4000000 in
theorem awake15 (w : World) : Calls Tryd.prog 16 #[] w (AwakePost w) := by
  have hmd := fun W => made_fn ⟨#[104, 105]⟩ W (by decide)
  have hgd := good_madeC ⟨#[104, 105]⟩ (by decide)
  have hmz : (madeC ⟨#[104, 105]⟩).size = 14 := size_madeC _
  generalize madeC ⟨#[104, 105]⟩ = M at *
  obtain ⟨B, hB⟩ : ∃ B, B = fillG (strOfNums [0] ++ M) := ⟨_, rfl⟩
  have hxz : (strOfNums [0] ++ M).size = 15 := by rw [ByteArray.size_append, snums, hmz]; rfl
  have hBz : B.size = 184 := by rw [hB]; exact size_fill _ (by omega)
  have hB15 : B.extract 0 15 = ⟨#[0]⟩ ++ M := by
    rw [hB]; unfold fillG
    rw [extract_left _ _ _ (by omega)]
    have := extract_whole (strOfNums [0] ++ M)
    rw [hxz] at this; rw [this]; rfl
  have hb15 : byteOf B 15 = 255 := by rw [hB]; unfold fillG; rw [byteOf_right _ _ _ (by omega), hxz]; exact byteOf_stuffs _ _ (by omega)
  have hb183 : byteOf B 183 = 255 := by rw [hB]; unfold fillG; rw [byteOf_right _ _ _ (by omega), hxz]; exact byteOf_stuffs _ _ (by omega)
  have HMD := Lib.hid hmd
  have hpo := fun W V (h : StrsAt W V [M]) => pack_ok 17 3 [M] V W (by decide) (by decide) (by decide) (by decide) h (fun x hx => by rw [List.mem_singleton.1 hx]; exact hgd) (by rw [catL_one, hmz]; decide)
  rw [pack_one M (by omega) (by omega), ← hB] at hpo
  have HPO := Lib.hid hpo; have HB15 := Lib.hid hB15; have H15 := Lib.hid hb15; have H183 := Lib.hid hb183; have HMZ := Lib.hid hmz
  clear hmd hgd hB hxz hpo hB15 hb15 hb183 hmz
  go_enter Tryd.func16, Tryd.ntmps16
  go_wp2_with fail
  (with_reducible refine (HMD.out _).mono ?_)
  rintro e w1 ⟨rfl, s1⟩
  have S1 := Lib.hid s1
  clear s1
  go_wp2_with fail
  have hsl : StrsAt (w1.alloc (.cells #[.string M] 9)) (.slice (some ⟨w1.heap.size, 0, none⟩) 1 1) [M] := strs_of_own (L := [M]) (row_new w1 #[.string M] 9 1 rfl (by decide))
  have S2 := Lib.hid (S1.out.alloc (.cells #[.string M] 9))
  generalize w1.alloc (.cells #[.string M] 9) = w2 at *
  (with_reducible refine (HPO.out _ _ hsl).mono ?_)
  rintro e w3 ⟨v2, he, o2, fr2, s3⟩
  obtain ⟨ad, c, rfl, q1, q2, q3⟩ := row_pd o2
  obtain ⟨g, rfl, hc⟩ := q3 [] ⟨17, true, 3, false, B⟩ [] rfl
  have he : e = .returned (.tuple #[.slice (some ⟨g, 0, none⟩) 1 c, .int .i64 4, .int .i64 0]) := he
  subst he
  obtain ⟨d0, d1, d2, d3, d4⟩ := hc
  simp only [List.length_nil, Nat.zero_mul, Nat.zero_add] at d0 d1 d2 d3 d4
  have D4 := Lib.hid d4; have D0 := Lib.hid d0; have D1 := Lib.hid d1; have D2 := Lib.hid d2
  have S3 := Lib.hid (S2.out.trans_nil s3)
  clear hsl o2 fr2 s3 q1 q3 S1 S2
  have hB15 := HB15.out
  have hi15 := byteOf_at B 15 (by omega); have hi183 := byteOf_at B 183 (by omega)
  rw [H15.out] at hi15; rw [H183.out] at hi183
  have hsa : ∀ a b : ByteArray, (a ++ b).size = a.size + b.size := fun a b => ByteArray.size_append
  have hmz := HMZ.out
  have hxx : ((⟨#[0]⟩ ++ M : ByteArray).toList == (⟨#[0]⟩ ++ M : ByteArray).toList) = true := by simp
  have h184 : (15 : Int) ≤ (B.size : Int) := by omega
  go_wp2_with fail
  dsimp only [List.append]
  go_region_held3 (fun W : World => W.cell? ⟨g, 0, none⟩ = some (.int .i64 17) ∧ W.cell? ⟨g, 1, none⟩ = some (.bool true) ∧ W.cell? ⟨g, 2, none⟩ = some (.int .i64 3) ∧ W.cell? ⟨g, 4, none⟩ = some (.string B)) (first | exact ⟨d0, d1, d2, d4⟩ | exact ⟨e0, e1, e2, e4⟩) (first | (go_at_call 23; (with_reducible refine (HMD.out _).mono ?_); rintro e w' ⟨rfl, hs⟩; have e0 := hs.cell (p := ⟨g, 0, none⟩) D0.out (by simp); have e1 := hs.cell (p := ⟨g, 1, none⟩) D1.out (by simp); have e2 := hs.cell (p := ⟨g, 2, none⟩) D2.out (by simp); have e4 := hs.cell (p := ⟨g, 4, none⟩) D4.out (by simp); have HS9 := Lib.hid hs; clear hs))
  all_goals
    go_wp2_with fail
    go_ret
    refine ⟨rfl, ?_⟩
    repeat (first | exact S3.out | exact Same.refl _ _ | refine Same.drew ?_ | refine Same.alloc ?_ _ | refine Same.trans_nil ?_ HS9.out)

end Go.Proofs.YtpnbhgmcfooppaaDoor
