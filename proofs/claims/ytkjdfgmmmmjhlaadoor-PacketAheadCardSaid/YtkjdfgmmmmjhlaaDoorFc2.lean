/- packet.Cut: bytes as packets and what is left. Condition: fewer than 2^40 bytes. -/
import Derived.Test.YtkjdfgmmmmjhlaaDoorFc1
import Derived.Test.YtkjdfgmmmmjhlaaDoorEn1
namespace Go.Proofs.YtkjdfgmmmmjhlaaDoor
open Go.RowKit Go.Shelf
attribute [local go_sem] Oper.semAt_some
set_option linter.unusedSimpArgs false
set_option linter.unusedVariables false

def piece (s : ByteArray) (k : Nat) : ByteArray := s.extract (188 * k) (188 * k + 188)
def pieces (s : ByteArray) : List ByteArray := (List.range (s.size / 188)).map (piece s)
def strValP (L : List ByteArray) : List Value := L.map Value.string
theorem byteOf_ext (s : ByteArray) (a b i : Nat) (h : a + i < b) (hb : b ≤ s.size) : byteOf (s.extract a b) i = byteOf s (a + i) := by
  obtain ⟨⟨l⟩⟩ := s
  have hb' : b ≤ l.length := by simpa [ByteArray.size] using hb
  simp only [byteOf, ByteArray.data_extract, List.getD_eq_getElem?_getD]
  congr 1
  simp only [Array.toList_extract, List.extract_eq_take_drop]
  rw [List.getElem?_take, if_pos (by omega), List.getElem?_drop]
theorem piece_str (s : ByteArray) (k : Nat) (h : 188 * k + 188 ≤ s.size) : strOf ((List.range 188).map fun i => byteOf s (188 * k + i)) = piece s k := by
  have h1 := str_bytes (piece s k)
  have hz : (piece s k).size = 188 := by unfold piece; rw [ByteArray.size_extract]; omega
  rw [hz] at h1
  rw [← h1]
  congr 1
  refine List.map_congr_left fun i hi => ?_
  rw [List.mem_range] at hi
  unfold piece
  rw [byteOf_ext _ _ _ _ (by omega) h]
/-- The row in block g reads s, up to n. -/
def RowTo (W : World) (g n : Nat) (s : ByteArray) : Prop := ∀ j, j < n → W.cell? ⟨g, j, none⟩ = some (.int .u8 (byteOf s j : Nat))
theorem piece_conv (W : World) (g m k : Nat) (s : ByteArray) (hr : RowTo W g (188 * m) s) (hk : k < m) (hm : 188 * m ≤ s.size) :
    (convert 51 9 (.slice (some ⟨g, 188 * k, none⟩) 188 188)).run Tryd.prog W = .ok (.string (piece s k)) W := by
  rw [← piece_str s k (by omega), run_convert_bytes_arg W 51 5 Tryd.underlying51 Tryd.underlying5 g (188 * k) 188 188 (((List.range 188).map fun i => byteOf s (188 * k + i)).map fun (n : Nat) => (n : Int)) (by simp) (fun i hi => ?_) 9 Tryd.underlying9]
  · simp [strOfNums, strOf, Function.comp_def]
  · rw [hr _ (by omega)]
    simp [List.getD_eq_getElem?_getD, List.getElem?_map, List.getElem?_range hi]
theorem rowTo_cut (s : ByteArray) (W : World) (n : Nat) (hn : n ≤ s.size) (hs : s.size ≤ maxLen) : RowTo (cutW W (s.extract 0 n)) W.heap.size n s := by
  intro j hj
  obtain ⟨_, _, _, _, h3, _⟩ := cut_row (s.extract 0 n) W (by rw [ByteArray.size_extract]; omega)
  rw [h3 j (.int .u8 (byteOf s j : Nat))]
  have hz : (s.extract 0 n).size = n := by rw [ByteArray.size_extract]; omega
  have := byteOf_ext s 0 n j (by omega) hn
  rw [Nat.zero_add] at this
  rw [← this]
  have hl : j < (s.extract 0 n).data.toList.length := by rw [Array.length_toList]; have : (s.extract 0 n).data.size = n := hz; omega
  generalize s.extract 0 n = X at hl
  have e : byteOf X j = (X.data.toList[j]'hl).toNat := by unfold byteOf; rw [List.getD_eq_getElem?_getD, List.getElem?_eq_getElem hl]; rfl
  rw [e]
  simp only [u8s, natsOf, List.map_map, List.getElem?_map, List.getElem?_eq_getElem hl, Option.map_some, Function.comp]

theorem chunk_any (a : Option Addr) (n c : Nat) (w : World) : Calls Tryd.prog 30 #[.slice a n c, .int .i64 188] w fun e w' =>
    e = .returned (.func (.func 42) #[] #[.pointer (some ⟨w.heap.size, 0, none⟩), .pointer (some ⟨w.heap.size + 1, 0, none⟩)]) ∧ w' = (w.alloc (.cells #[.slice a n c] 51)).alloc (.cells #[.int .i64 188] 3) := by
  have hmf : ∀ (fn : Fn) (first cap : Array Value) (w : World), (Instr.makeFunc fn first cap).run Tryd.prog w = .ok (.func fn first cap) w := fun _ _ _ _ => rfl
  go_enter Tryd.func30, Tryd.ntmps30
  go_wp2
  go_ret
  exact ⟨rfl, rfl⟩

theorem size_cutW (W : World) (s : ByteArray) : (cutW W s).heap.size = W.heap.size + 1 := by
  show (W.heap.push _).size = _
  simp
theorem Tryd.infoP : (Tryd.prog.info? 9).map (fun i => (i.zero, i.size, i.bytes)) = some (some (.string ByteArray.empty), 1, 16) := by kernel_rfl
/-- What has come of the pieces, the row of bytes beside. -/
def CutI (w : World) (s : ByteArray) (m B : Nat) (pre : List Nat) (W : World) : Prop :=
  (∃ v, W.heap[B]? = some (.cells #[v] 39 (0, 0)) ∧ W.ownsRow (B + 6) 9 1 v pre.length (strValP (pre.map (piece s)))) ∧ RowTo W (B + 1) (188 * m) s ∧ B + 6 ≤ W.heap.size ∧ Same [] w W
theorem CutI.abides {w : World} {s : ByteArray} {m B : Nat} (hB : B = w.heap.size) (pre : List Nat) (A C : World) (h : CutI w s m B pre A) (hs : Same [B + 4, B + 4 + 1, B + 2, B + 3] A C) : CutI w s m B pre C := by
  obtain ⟨⟨v, h1, h2⟩, h3, h4, h5⟩ := h
  refine ⟨⟨v, hs.heap h1 (by simp; omega), own_same h2 hs (fun k hk => ?_)⟩, fun j hj => hs.cell (h3 j hj) (by simp), Nat.le_trans h4 hs.size, h5.trans hs (fun x hx hlt => by simp at hx; omega)⟩
  have := (h2.lt k hk).1
  simp; omega

/-- What Cut answers. -/
def CutPost (w : World) (s : ByteArray) (e : Ending) (w' : World) : Prop :=
  ∃ v, e = .returned (.tuple #[v, .string (s.extract (188 * (s.size / 188)) s.size)]) ∧ Reads w' 1 v (s.size / 188) (strValP (pieces s)) ∧ Same [] w w'

set_option maxRecDepth 100000 in
set_option maxHeartbeats 4000000 in
theorem cut_any (s : ByteArray) (w : World) (hs : s.size < 1099511627776) : Calls Tryd.prog 19 #[.string s] w (CutPost w s) := by
  obtain ⟨m, hm⟩ : ∃ m, s.size / 188 = m := ⟨_, rfl⟩
  have hms : 188 * m ≤ s.size := by omega
  have hq : (s.size : Int).tdiv 188 = (m : Int) := by rw [Int.tdiv_eq_ediv_of_nonneg (by omega)]; omega
  have hms1 : (m : Int) * 188 ≤ (s.size : Int) := by omega
  have hnn : 0 ≤ (m : Int) * 188 := by omega
  have htn : ((m : Int) * 188).toNat = 188 * m := by omega
  refine (callsIn_wide (n := 0)).1 ?_
  refine callsIn_of_wp_marks Tryd.func19 rfl trivial ?_ rfl
  simp only [Tryd.ntmps19, List.size_toArray, List.length_cons, List.length_nil, Nat.reduceAdd, Nat.reduceSub, Array.replicate_succ, Array.replicate_zero, List.push_toArray, List.append_toArray, List.nil_append, List.cons_append]
  have hcv := fun W => run_cut (s.extract 0 (188 * m)) W
  gi_wp2_with (refine ⟨trivial, rfl, ?_⟩; gi_at_call 30; refine (callsIn_wide.2 (chunk_any _ _ _ _)).mono ?_; rintro e w' ⟨rfl, rfl⟩)
  obtain ⟨B, hB⟩ : ∃ B, B = w.heap.size := ⟨_, rfl⟩
  obtain ⟨cap, hcap⟩ : ∃ cap, grownCap (w.alloc (.cells #[.slice none 0 0] 39)) (188 * m) 0 5 = cap := ⟨_, rfl⟩
  have hc1 : 188 * m ≤ cap := by rw [← hcap]; exact grownCap_ge _ _ _ _
  have hc2 : cap ≤ maxLen := by rw [← hcap]; exact grownCap_le_maxLen _ _ _ _ (by unfold maxLen; omega)
  have hr0 := rowTo_cut s (w.alloc (.cells #[.slice none 0 0] 39)) (188 * m) hms (by unfold maxLen; omega)
  have hz0 := size_cutW (w.alloc (.cells #[.slice none 0 0] 39)) (s.extract 0 (188 * m))
  have hb0 := (cut_same (s.extract 0 (188 * m)) (w.alloc (.cells #[.slice none 0 0] 39))).heap (heap_alloc_new w (.cells #[.slice none 0 0] 39)) (by simp)
  have hs0 := ((Same.refl [] w).alloc (.cells #[.slice none 0 0] 39)).trans_nil (cut_same (s.extract 0 (188 * m)) (w.alloc (.cells #[.slice none 0 0] 39)))
  rw [World.size_alloc] at hr0 hz0
  generalize cutW (w.alloc (.cells #[.slice none 0 0] 39)) (s.extract 0 (188 * m)) = W2 at hr0 hz0 hb0 hs0 ⊢
  rw [hcap, hz0]
  rw [← hB] at hr0 hz0 hb0 ⊢
  clear hcap hcv
  have hd : ∃ Wd, Wd = ((W2.alloc (.cells #[.slice (some ⟨B + 1, 0, none⟩) (188 * m) cap] 51)).alloc (.cells #[.int .i64 188] 3)) := ⟨_, rfl⟩
  obtain ⟨Wd, hWd⟩ := hd
  have hzd : Wd.heap.size = B + 4 := by rw [hWd, World.size_alloc, World.size_alloc, hz0]
  have hsd : Same [] W2 Wd := by rw [hWd]; exact ((Same.refl [] W2).alloc _).alloc _
  have hbs : Wd.heap[B + 2]? = some (.cells #[.slice (some ⟨B + 1, 0, none⟩) (188 * m) cap] 51 (0, 0)) := by
    rw [hWd]
    have := heap_alloc_new W2 (.cells #[.slice (some ⟨B + 1, 0, none⟩) (188 * m) cap] 51)
    rw [hz0] at this
    exact (Below.heap_alloc _ _ _ (by rw [World.size_alloc, hz0]; omega)).trans this
  have hbn : Wd.heap[B + 3]? = some (.cells #[.int .i64 188] 3 (0, 0)) := by
    rw [hWd]
    have := heap_alloc_new (W2.alloc (.cells #[.slice (some ⟨B + 1, 0, none⟩) (188 * m) cap] 51)) (.cells #[.int .i64 188] 3)
    rw [World.size_alloc, hz0] at this
    exact this
  have hbd := hsd.heap hb0 (by simp)
  have hrd : RowTo Wd (B + 1) (188 * m) s := fun j hj => hsd.cell (hr0 j hj) (by simp)
  have hswd := hs0.trans_nil hsd
  rw [← hWd]
  clear hWd hsd hr0 hz0 hb0 hs0
  have HBB := Lib.hid hB
  clear hB
  have HBD := Lib.hid hbd; have HRD := Lib.hid hrd; have HSD := Lib.hid hswd
  clear hbd hrd hswd
  refine wp_rangeFull (D := B + 4) hzd (gf := 42) (lb := #[.pointer (some ⟨B + 2, 0, none⟩), .pointer (some ⟨B + 2 + 1, 0, none⟩)]) rfl (enters_of Tryd.func42 (by kernel_rfl) rfl)
    (chunk1_full (B + 1) m cap hc1 hc2 Wd (B + 2) (B + 3) (by omega) hbs hbn) (fun _ => rfl) (fun k hk => by simp at hk; omega)
    (CutI w s m B) (CutI.abides HBB.out) ?h0 ?round ?done
  case h0 =>
    intro W hW hz
    exact ⟨⟨_, hW.heap HBD.out (by simp), World.ownsRow_nil _ _ _ _⟩, fun j hj => hW.cell (HRD.out j hj) (by simp), hz, HSD.out.trans_nil hW⟩
  case round =>
    intro ll pre x W hi hpre
    obtain ⟨i0, hi0, hz0, hz1, hz2⟩ := info_parts Tryd.infoP
    have hx : x < m := by
      have := hpre.subset (show x ∈ pre ++ [x] by simp)
      simpa using this
    have hl : pre.length + 1 ≤ m := by have := hpre.length_le; simpa using this
    clear hi hpre hbs hbn
    dsimp only [pieceV]
    gi_wp2
    refine ⟨trivial, ?_⟩
    intro W2 h2 hsz
    obtain ⟨⟨v, g1, g2⟩, g3, g4, g5⟩ := h2
    have c0 : W2.cell? ⟨B, 0, none⟩ = some v := by rw [cell_of g1]; rfl
    have hcv := piece_conv W2 (B + 1) m x s g3 hx hms
    have G1 := Lib.hid g1; have G2 := Lib.hid g2; have G3 := Lib.hid g3; have G5 := Lib.hid g5
    have hown6 : ∀ k, k ∈ v.ownBlock.toList → B + 6 ≤ k := fun k hk => (g2.lt k (by simpa using hk)).1
    have HO6 := Lib.hid hown6
    clear g1 g2 g3 g5 hown6
    gi_wp2_with (gi_at_builtin; refine wpListIn_append_own _ rfl (.tmp 17) (.tmp 20) 39 rfl (B + 6) 9 i0 (.string ByteArray.empty) 1 16 Tryd.underlying39 hi0 hz0 hz1 hz2 rfl (by decide) v pre.length (strValP (pre.map (piece s))) rfl (G2.out.alloc _) ⟨W2.heap.size, 0, none⟩ 1 1 [.string (piece s x)] rfl rfl (fun j u hj => by have : j = 0 := by { have := (List.getElem?_eq_some_iff.1 hj).1; simp at this; omega }; subst this; rw [Addr.add_lit, cell_of (heap_alloc_new W2 _)]; exact hj) (by intro u hu; simp at hu; subst hu; rfl) (by unfold maxLen; omega) (by omega) (by simp; omega) ?_; intro v' w4 hown hgrow _; obtain ⟨g', cap', cur', rfl, _⟩ := grow_succ hown; have hb4 := (Same.of_grown hgrow).heap ((Below.heap_alloc W2 (.cells #[.string (piece s x)] 9) _ (heap_lt G1.out)).trans G1.out) (fun hm => by have := HO6.out _ hm; omega); have c4 : w4.cell? ⟨B, 0, none⟩ = some v := by { rw [cell_of hb4]; rfl }; have f4 : w4.frozen? ⟨B, 0, none⟩ = false := free_of hb4 0; have HB4 := Lib.hid hb4; have HOWN := Lib.hid hown; have HG := Lib.hid hgrow; clear hb4 hown hgrow)
    have hs4 : Same v.ownBlock.toList W2 w4 := ((Same.refl _ W2).alloc _).trans (Same.of_grown HG.out) (fun k hk _ => hk)
    refine ⟨⟨⟨_, set_same HB4.out _, ?_⟩, fun j hj => ?_, ?_, ?_⟩, fun k hk => ?_⟩
    · have hO := own_same HOWN.out ((Same.refl [B] w4).setCell (p := ⟨B, 0, none⟩) (by simp) (Value.slice (some ⟨g', 0, none⟩) (pre.length + 1) cap')) (fun k hk => by have := (HOWN.out.lt k hk).1; simp; omega)
      rw [List.length_append, List.map_append]
      simpa [strValP] using hO
    · exact ((Same.refl [B] w4).setCell (p := ⟨B, 0, none⟩) (by simp) _).cell (hs4.cell (G3.out j hj) (fun h9 => by have h8 : B + 6 ≤ B + 1 := HO6.out _ h9; omega)) (by simp)
    · have h1 := hs4.size
      have h2 := ((Same.refl [B] w4).setCell (p := ⟨B, 0, none⟩) (by simp) (Value.slice (some ⟨g', 0, none⟩) (pre.length + 1) cap')).size
      omega
    · exact (G5.out.trans hs4 (fun k hk hlt => by have := HO6.out _ hk; have := HBB.out; omega)).setCell (fun h9 => by have := HBB.out; simp at h9; omega) _
    · have h5 : Same (B :: v.ownBlock.toList) W2 (w4.setCell ⟨B, 0, none⟩ (Value.slice (some ⟨g', 0, none⟩) (pre.length + 1) cap')) := (hs4.mono (fun k hk _ => by simp [hk])).setCell (by simp) _
      have hk4 : B + 1 < k ∧ k < B + 6 := by simp at hk; omega
      exact h5.block k (by omega) (fun hm => by
        rcases List.mem_cons.1 hm with h9 | h9
        · omega
        · have := HO6.out _ h9; omega)
  case done =>
    intro W h hD
    obtain ⟨⟨v, g1, g2⟩, g3, g4, g5⟩ := h
    have c0 : W.cell? ⟨B, 0, none⟩ = some v := by rw [cell_of g1]; rfl
    have hsi : ((m : Int) * 188) ≤ (s.size : Int) := hms1
    have HD := Lib.hid hD; have G2 := Lib.hid g2; have G5 := Lib.hid g5
    clear hD g1 g2 g3 g5
    gi_wp2
    gi_region
    gi_wp2
    refine ⟨by simp, .inl ⟨_, _, rfl, run_takeDeferred (w := W.drew) HD.out, ?_⟩⟩
    refine ⟨_, results_tmp2 rfl _ _ _, ?_⟩
    have hs9 : Same [B + 4] W (W.drew.putObj (B + 4) (.deferred none)) := (Same.refl [B + 4] W).drew.trans (same_putObj _ _ _ [B + 4] (by simp)) (fun x hx _ => hx)
    refine ⟨v, by rw [hm]; rfl, ?_, G5.out.trans hs9 (fun x hx hlt => by have := HBB.out; simp at hx; omega)⟩
    have := Reads.of_own (own_same G2.out hs9 (fun k hk => by have := (G2.out.lt k hk).1; simp; omega))
    rw [List.length_range] at this
    unfold pieces
    rw [hm]; exact this

end Go.Proofs.YtkjdfgmmmmjhlaaDoor
