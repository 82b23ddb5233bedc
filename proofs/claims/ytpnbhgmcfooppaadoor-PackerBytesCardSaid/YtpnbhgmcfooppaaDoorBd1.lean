/- Bytes, with bytes 255 behind them (filled, in the reference), by a row that is cut out of a text and grows. Condition: fewer than 2^40 bytes. -/
import Derived.Test.YtpnbhgmcfooppaaDoorBitsIn
import Derived.Test.YtpnbhgmcfooppaaDoorSlices
import Derived.ArgAppend
import Derived.Laws.IdiomStrings
namespace Go.Proofs.YtpnbhgmcfooppaaDoor
open Go.RowKit
set_option linter.unusedSimpArgs false
set_option linter.unusedVariables false

/-- The slice v lies in block g, from its first cell on, reads ys, and all its cells may be written. -/
def RowF (w : World) (v : Value) (g : Nat) (ys : List Value) : Prop :=
  ∃ cap, v = .slice (some ⟨g, 0, none⟩) ys.length cap ∧ ys.length ≤ cap ∧ cap ≤ maxLen ∧ (∀ j u, ys[j]? = some u → w.cell? ⟨g, j, none⟩ = some u) ∧
    ∀ j, j < cap → (w.cell? ⟨g, j, none⟩).isSome = true ∧ w.frozen? ⟨g, j, none⟩ = false

theorem RowF.same {A B : World} {v : Value} {g : Nat} {ys : List Value} {S : List Nat} (h : RowF A v g ys) (hs : Same S A B) (hg : g ∉ S) : RowF B v g ys := by
  obtain ⟨cap, rfl, h1, h2, h3, h4⟩ := h
  refine ⟨cap, rfl, h1, h2, fun j u hj => hs.cell (h3 j u hj) hg, fun j hj => ?_⟩
  obtain ⟨c, hc⟩ := Option.isSome_iff_exists.1 (h4 j hj).1
  refine ⟨by rw [hs.cell hc hg]; rfl, ?_⟩
  rw [hs.frozen (World.block_lt_of_cell? A _ hc) hg]
  exact (h4 j hj).2
theorem rowF_of_own {w : World} {base e n : Nat} {v : Value} {ys : List Value} (h : w.ownsRow base e 1 v n ys) (h0 : ys ≠ []) : ∃ g, v.ownBlock = some g ∧ base ≤ g ∧ RowF w v g ys := by
  have hl : ys.length = n := by simpa using h.1
  rcases h.2 with ⟨_, h1⟩ | ⟨g, cap, cur, rfl, hb, hg, h1, h2, h3, h4⟩
  · exact absurd (List.eq_nil_of_length_eq_zero (by omega)) h0
  · refine ⟨g, rfl, hb, cap, by rw [hl], by omega, h2, fun j u hj => ?_, fun j hj => ?_⟩
    · rw [cell_of hg, ← Array.getElem?_toList]
      rw [← h4, List.getElem?_take] at hj
      split at hj
      · exact hj
      · cases hj
    · rw [cell_of hg, free_of hg]
      rw [Nat.mul_one] at h3
      exact ⟨by rw [Array.getElem?_eq_getElem (by omega)]; rfl, rfl⟩

section
variable {P : Program} {w : World}
theorem run_append_rowF (t ty e : TypeId) (i : TypeInfo) (z : Value) (ht : P.underlying t = some (.slice e)) (hi : P.info? e = some i) (hz : i.zero = some z)
    (hsize : i.size = 1) (hby : i.bytes = 1) (hzs : z.cells.size = 1) (v : Value) (g : Nat) (xs : List Value) (hown : RowF w v g xs)
    (ad : Addr) (c : Nat) (y : Value) (hr : w.cell? (ad.add 0) = some y) (h1 : y.oneCell' = true) (h63 : xs.length + 1 ≤ 140737488355328) :
    ∃ v' w' g', (Builtin.append_ #[t, t] ty #[v, .slice (some ad) 1 c]).run P w = .ok v' w' ∧ RowF w' v' g' (xs ++ [y]) ∧ Same [g] w w' ∧ (g' = g ∨ w.heap.size ≤ g') := by
  obtain ⟨cap, rfl, g1, g2, g3, g4⟩ := hown
  have hn : ∀ j u, [y][j]? = some u → w.cell? (ad.add j) = some u := fun j u hj => by
    have : j = 0 := by
      have := (List.getElem?_eq_some_iff.1 hj).1; simp at this; omega
    subst this
    simp at hj; subst hj; exact hr
  by_cases hroom : xs.length + 1 ≤ cap
  · have hrun := run_append_room_cells (P := P) w t ty e i ht hi g 0 xs.length cap ad 1 c [y] (by simp [hsize]) hn (by simpa using h1) hroom
      (fun j hj => by simp at hj; subst hj; simp [hsize]; exact (g4 xs.length (by omega)).1) (fun j hj => by simp at hj; subst hj; simp [hsize]; exact (g4 xs.length (by omega)).2)
    refine ⟨_, _, g, hrun, ⟨cap, by simp, by simpa using hroom, g2, ?_, ?_⟩, ?_, .inl rfl⟩
    · intro j u hj
      rw [hsize, Nat.zero_add, Nat.mul_one]
      by_cases hj1 : j < xs.length
      · rw [List.getElem?_append_left hj1] at hj
        rw [World.cell?_setCells_out g [y] xs.length w ⟨g, j, none⟩ (fun _ _ => .inl hj1)]
        exact g3 j u hj
      · have : j = xs.length := by
          have := (List.getElem?_eq_some_iff.1 hj).1; simp at this; omega
        subst this
        simp at hj; subst hj
        exact World.cell?_setCells_in g [y] xs.length w (fun j hj => by simp at hj; subst hj; exact (g4 xs.length (by omega)).1) 0 (by simp)
    · intro j hj
      rw [hsize, Nat.zero_add, Nat.mul_one, World.frozen?_setCells]
      refine ⟨?_, (g4 j hj).2⟩
      by_cases hj1 : j = xs.length
      · subst hj1
        rw [show w.setCells g xs.length [y] = w.setCells g xs.length [y] from rfl]
        have := World.cell?_setCells_in g [y] xs.length w (fun j hj => by simp at hj; subst hj; exact (g4 xs.length (by omega)).1) 0 (by simp)
        rw [Nat.add_zero] at this
        rw [this]; rfl
      · rw [World.cell?_setCells_out g [y] xs.length w ⟨g, j, none⟩ (fun _ _ => by simp; omega)]
        exact (g4 j hj).1
    · exact (Same.refl [g] w).setCell (by simp) _
  · obtain ⟨v', w', hrun, h2, h3⟩ := run_append_arg_grows (P := P) w t ty e i z 1 1 ht hi hz hsize hby hzs (by decide) ⟨g, 0, none⟩ xs.length cap xs (by simp) (fun j u hj => by rw [Addr.add_lit, Nat.zero_add]; exact g3 j u hj) ad 1 c [y] (by simp) hn (by omega) (by unfold maxLen; omega) (by omega)
    obtain ⟨g', _, hb, hrow⟩ := rowF_of_own h2 (by simp)
    exact ⟨v', w', g', hrun, hrow, (Same.of_grown h3).mono (fun x hx _ => by simp at hx), .inr hb⟩

theorem wpList_append_rowF {ops : Array Oper} {rest : List Oper} {o : Oper} {a : Act} {Q : Exit → Act → World → Prop} (hgd : o.guard = none) (s x : Operand) (t : TypeId)
    (ho : o.op = .call { callee := .builtin .append, args := #[s, x], argTypes := #[t, t] })
    (e : TypeId) (i : TypeInfo) (z : Value) (ht : P.underlying t = some (.slice e)) (hi : P.info? e = some i) (hz : i.zero = some z)
    (hsize : i.size = 1) (hby : i.bytes = 1) (hzs : z.cells.size = 1) (v : Value) (g : Nat) (xs : List Value) (hs : a.eval s = v) (hown : RowF w v g xs)
    (ad : Addr) (c : Nat) (y : Value) (hx : a.eval x = .slice (some ad) 1 c) (hr : w.cell? (ad.add 0) = some y) (h1 : y.oneCell' = true) (h63 : xs.length + 1 ≤ 140737488355328)
    (h : ∀ v' w' g', RowF w' v' g' (xs ++ [y]) → Same [g] w w' → (g' = g ∨ w.heap.size ≤ g') → wpList P ops Q rest (a.put o.dst v') w') :
    wpList P ops Q (o :: rest) a w := by
  refine wpList_plain hgd fun K hK => ?_
  obtain ⟨v', w', g', hrun, h2, h3, h5⟩ := run_append_rowF (P := P) t o.type e i z ht hi hz hsize hby hzs v g xs hown ad c y hr h1 h63
  unfold Oper.wp execOp
  simp only [ho, resolve, invoke, builtin, Sem.run_bind, Sem.run_pure, Result.andThen_ok, List.map_toArray, List.map_cons, List.map_nil, hs, hx, hrun]
  exact hK _ _ (h v' w' g' h2 h3 h5)
end

/-- '[]byte(s)': the value and the world. -/
noncomputable def cutV (W : World) (s : ByteArray) : Value := .slice (some ⟨W.heap.size, 0, none⟩) s.size (grownCap W s.size 0 5)
noncomputable def cutW (W : World) (s : ByteArray) : World := W.drew.alloc (.cells (bytesRow s (grownCap W s.size 0 5)) 5 ((bytesRow s (grownCap W s.size 0 5)).size, (bytesRow s (grownCap W s.size 0 5)).size + 1))
theorem run_cut (s : ByteArray) (W : World) : (convert 9 48 (.string s)).run Tryd.prog W = .ok (cutV W s) (cutW W s) :=
  run_bytes_of_string W _ _ _ s Tryd.underlying9 Tryd.underlying48 Tryd.underlying5
def natsOf (s : ByteArray) : List Nat := s.data.toList.map UInt8.toNat
theorem length_nats (s : ByteArray) : (natsOf s).length = s.size := by rw [natsOf, List.length_map, Array.length_toList]; rfl
theorem length_u8s (l : List Nat) : (u8s l).length = l.length := by rw [u8s, List.length_map]
/-- 'string(b)' of such a row. -/
theorem rowF_string {w : World} {v : Value} {g : Nat} {l : List Nat} (h : RowF w v g (u8s l)) : (convert 48 9 v).run Tryd.prog w = .ok (.string (strOf l)) w := by
  obtain ⟨cap, rfl, _, _, h3, _⟩ := h
  rw [length_u8s]
  rw [run_convert_bytes_arg w 48 5 Tryd.underlying48 Tryd.underlying5 g 0 l.length cap (l.map fun (n : Nat) => (n : Int)) (by simp) (fun i hi => ?_) 9 Tryd.underlying9]
  · simp [strOfNums, strOf, Function.comp_def]
  · rw [Nat.zero_add, h3 i (.int .u8 (l.getD i 0 : Nat))]
    · simp [List.getD_eq_getElem?_getD, List.getElem?_map, List.getElem?_eq_getElem hi]
    · simp [u8s, List.getD_eq_getElem?_getD, List.getElem?_map, List.getElem?_eq_getElem hi]
theorem cut_same (s : ByteArray) (W : World) : Same [] W (cutW W s) := (Same.refl [] W).drew.alloc _
theorem cut_row (s : ByteArray) (W : World) (hs : s.size ≤ maxLen) : RowF (cutW W s) (cutV W s) W.heap.size (u8s (natsOf s)) := by
  have hcap := grownCap_ge W s.size 0 5
  have hcm := grownCap_le_maxLen W s.size 0 5 hs
  have hh : (cutW W s).heap[W.heap.size]? = some (.cells (bytesRow s (grownCap W s.size 0 5)) 5 ((bytesRow s (grownCap W s.size 0 5)).size, (bytesRow s (grownCap W s.size 0 5)).size + 1)) := by
    show (W.heap.push _)[W.heap.size]? = _
    simp
  have hsz : (bytesRow s (grownCap W s.size 0 5)).size = grownCap W s.size 0 5 := by
    have h1 : s.data.size = s.size := rfl
    simp only [bytesRow, Array.size_append, Array.size_map, Array.size_replicate, h1]; omega
  generalize hcapd : grownCap W s.size 0 5 = cap at *
  refine ⟨cap, by unfold cutV; rw [length_u8s, length_nats, hcapd], by rw [length_u8s, length_nats]; exact hcap, hcm, fun j u hj => ?_, fun j hj => ?_⟩
  · rw [cell_of hh]
    have hj1 : j < s.data.size := by have := (List.getElem?_eq_some_iff.1 hj).1; rw [length_u8s, length_nats] at this; exact this
    unfold bytesRow
    rw [Array.getElem?_append_left (by simpa using hj1), ← hj]
    simp [u8s, natsOf, Function.comp_def]
  · constructor
    · rw [cell_of hh, Array.getElem?_eq_getElem (by omega)]; rfl
    · simp [World.frozen?, hh]; omega

/-- Bytes, with bytes 255 behind them, 184 together. -/
def stuffOf (n : Nat) : ByteArray := ⟨(List.replicate n (255 : UInt8)).toArray⟩
def fillG (s : ByteArray) : ByteArray := s ++ stuffOf (184 - s.size)
theorem size_stuff (n : Nat) : (stuffOf n).size = n := by simp [stuffOf, ByteArray.size]
theorem size_fill (s : ByteArray) (h : s.size ≤ 184) : (fillG s).size = 184 := by unfold fillG; rw [ByteArray.size_append, size_stuff]; omega
theorem fill_nats (s : ByteArray) (m : Nat) : strOf (natsOf s ++ List.replicate m 255) = s ++ stuffOf m := by
  apply ByteArray.ext
  rw [ByteArray.data_append]
  apply Array.toList_inj.1
  have hz : ∀ l : List UInt8, List.map (UInt8.ofNat ∘ UInt8.toNat) l = l := fun l => by
    rw [show (UInt8.ofNat ∘ UInt8.toNat) = id from funext fun b => by simp]
    exact List.map_id l
  simp [strOf, stuffOf, natsOf, hz]
theorem u8s_snoc (l : List Nat) (n : Nat) : u8s l ++ [Value.int .u8 n] = u8s (l ++ [n]) := by simp [u8s]
theorem rep_snoc (l : List Nat) (m n : Nat) : (l ++ List.replicate m n) ++ [n] = l ++ List.replicate (m + 1) n := by rw [List.append_assoc, ← List.replicate_succ']
theorem length_fill (s : ByteArray) (m : Nat) : (natsOf s ++ List.replicate m 255).length = s.size + m := by rw [List.length_append, length_nats, List.length_replicate]
theorem fill_done (s : ByteArray) (m : Nat) (hm : s.size + m ≤ 184 ∨ m = 0) (hk : ¬ s.size + m < 184) : s ++ stuffOf m = fillG s := by unfold fillG; congr 2; omega

theorem Tryd.infoB : (Tryd.prog.info? 5).map (fun i => (i.zero, i.size, i.bytes)) = some (some (.int .u8 0), 1, 1) := by kernel_rfl

def lenV (v : Value) : Nat := match v with | .slice _ n _ => n | _ => 0
set_option maxHeartbeats 1000000 in
theorem filled_any (s : ByteArray) (w : World) (hs : s.size < 1099511627776) : Calls Tryd.prog 34 #[.string s] w (Ret (.string (fillG s)) w) := by
  obtain ⟨i0, hi, hz0, hz1, hz2⟩ := info_parts Tryd.infoB
  have hcut := run_cut s
  have hrow := cut_row s w (by unfold maxLen; omega)
  have hsm := cut_same s w
  have hlt : w.heap.size < (cutW w s).heap.size := by show _ < (w.heap.push _).size; simp
  have HR := Lib.hid hrow; have HS := Lib.hid hsm
  clear hrow hsm
  go_enter Tryd.func34, Tryd.ntmps34
  go_wp2_with fail
  go_loopw [3] (fun v wr => ∃ m g : Nat, (s.size + m ≤ 184 ∨ m = 0) ∧ w.heap.size ≤ g ∧ RowF wr v g (u8s (natsOf s ++ List.replicate m 255)) ∧ Same [] w wr) (fun v _ => 184 - lenV v)
  case atStart => exact ⟨0, w.heap.size, .inr rfl, Nat.le_refl _, by simpa using HR.out, HS.out⟩
  case round =>
    obtain ⟨m, g, hm, hg, hr, hs1⟩ := hrel
    have hl := length_fill s m
    obtain ⟨n, hn⟩ : ∃ n, n = s.size + m := ⟨_, rfl⟩
    have hcv := rowF_string hr
    obtain ⟨cap, rfl, r1, r2, r3, r4⟩ := id hr
    rw [length_u8s, hl] at hr hcv r1 ⊢
    clear r3 r4 HR HS hcut
    have hd := fun hk => fill_done s m hm hk
    rw [← hn] at hr hcv r1 hd ⊢
    have HN := Lib.hid hn
    clear hn hl hm
    by_cases hk : n < 184
    · have hk2 : (n : Int) < 184 := by omega
      have HR1 := Lib.hid hr; have HS1 := Lib.hid hs1
      have hz : (u8s (natsOf s ++ List.replicate m 255)).length + 1 ≤ 140737488355328 := by rw [length_u8s, length_fill, ← HN.out]; omega
      have HZ := Lib.hid hz
      clear hr hs1 hcv hd hz
      go_wp2_with (first | (at_builtin; refine wpList_append_rowF rfl (.tmp 9) (.tmp 10) 48 rfl 5 i0 (.int .u8 0) Tryd.underlying48 hi hz0 hz1 hz2 rfl _ g (u8s (natsOf s ++ List.replicate m 255)) rfl (by exact HR1.out.same ((Same.refl [] _).alloc _) (by simp)) ⟨wr.heap.size, 0, none⟩ 1 (.int .u8 255) rfl (by rw [Addr.add_lit]; exact cell_of (heap_alloc_new _ _) _) rfl HZ.out ?_; intro v' w4 g' hrow hsm hat; have HROW := Lib.hid hrow; have HSM := Lib.hid hsm; have HAT := Lib.hid hat; clear hrow hsm hat) | fail)
      have hrow := HROW.out
      rw [show Value.int .u8 255 = Value.int .u8 ((255 : Nat) : Int) from rfl, u8s_snoc, rep_snoc] at hrow
      have hlen : lenV v' = n + 1 := by
        obtain ⟨cap, rfl, _⟩ := id hrow
        rw [length_u8s, length_fill, HN.out]; rfl
      go_roundw
      case rel =>
        refine ⟨m + 1, g', .inl (by have := HN.out; omega), ?_, hrow, (HS1.out.alloc _).trans HSM.out (fun x hx hlt => by simp at hx; omega)⟩
        rcases HAT.out with h | h
        · omega
        · have := HS1.out.size; rw [World.size_alloc] at h; omega
      case measure => rw [hlen]; simp only [lenV]; omega
    · have hk2 : ¬ (n : Int) < 184 := by omega
      rw [fill_nats, hd hk] at hcv
      have HS1 := Lib.hid hs1
      clear hr hs1 hd
      go_wp2_with fail
      go_ret
      exact ⟨rfl, HS1.out⟩

end Go.Proofs.YtpnbhgmcfooppaaDoor
