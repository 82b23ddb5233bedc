/- A packet's bytes, in the reference (Bytes); its Check; Plain. Condition of Bytes: the packet may be. -/
import Derived.Test.YtpnbhgmcfooppaaDoorDEn2
import Derived.Test.YtpnbhgmcfooppaaDoorPk1
import Derived.Test.YtpnbhgmcfooppaaDoorBd1
import Derived.Deep.Slices
import Derived.Deep.DeepCutAuto
namespace Go.Proofs.YtpnbhgmcfooppaaDoor
open Go.RowKit
set_option linter.unusedSimpArgs false
set_option linter.unusedVariables false

theorem rp_cells {w : World} {b : Nat} {pp : Int} {st : Bool} {c : Int} {bad : Bool} {body : ByteArray} (h : w.heap[b]? = some (.cells #[.int .i64 pp, .bool st, .int .i64 c, .bool bad, .string body] 33 (0, 0))) :
    w.cell? ⟨b, 0, none⟩ = some (.int .i64 pp) ∧ w.cell? ⟨b, 1, none⟩ = some (.bool st) ∧ w.cell? ⟨b, 2, none⟩ = some (.int .i64 c) ∧ w.cell? ⟨b, 3, none⟩ = some (.bool bad) ∧ w.cell? ⟨b, 4, none⟩ = some (.string body) := by
  refine ⟨?_, ?_, ?_, ?_, ?_⟩ <;> exact (cell_of h _).trans rfl
theorem strOf_nums (l : List Nat) : strOf l = strOfNums (l.map fun (n : Nat) => (n : Int)) := by simp [strOfNums, strOf, Function.comp_def]
/-- The first bytes of an adaptation. -/
def fillL : Nat → List Nat
  | 0 => []
  | m + 1 => 0 :: List.replicate m 255
theorem fillL_snoc (m : Nat) : fillL m ++ [if m = 0 then 0 else 255] = fillL (m + 1) := by
  cases m with
  | zero => rfl
  | succ m => rw [if_neg (by omega)]; show 0 :: (List.replicate m 255 ++ [255]) = 0 :: List.replicate (m + 1) 255; rw [List.replicate_succ']
theorem length_fillL (m : Nat) : (fillL m).length = m := by cases m <;> simp [fillL]
def headN (pid : Nat) (st : Bool) (c : Nat) (bad : Bool) (h : Nat) : List Nat := [71, pid / 256 + bad.toNat * 128 + st.toNat * 64, pid % 256, 16 * h + c]
theorem head_nat (pid : Nat) (st : Bool) (c : Nat) (bad : Bool) (n : Nat) : (headN pid st c bad (howG n)).map (fun (n : Nat) => (n : Int)) = headL pid st c bad n := rfl
theorem enc_long (pid : Nat) (st : Bool) (c : Nat) (bad : Bool) (body : ByteArray) (h : body.size = 184) : strOf (headN pid st c bad 1) ++ body = encG pid st c bad body := by
  have e : headN pid st c bad 1 = headN pid st c bad (howG body.size) := by unfold howG; rw [if_pos h]
  unfold encG
  rw [e, strOf_nums, head_nat]
  unfold adL
  rw [if_pos h, List.append_nil]
theorem enc_short (pid : Nat) (st : Bool) (c : Nat) (bad : Bool) (body : ByteArray) (n : Nat) (hn : body.size + n = 183) (h : Nat) (hh : h = howG body.size) : strOf (headN pid st c bad h ++ n :: fillL n) ++ body = encG pid st c bad body := by
  unfold encG
  rw [hh, strOf_nums, List.map_append, head_nat, List.map_cons]
  unfold adL
  rw [if_neg (by omega), show 183 - body.size = n by omega]
  congr 4
  cases n with
  | zero => rw [if_pos (by omega)]; rfl
  | succ n => rw [if_neg (by omega), show 182 - body.size = n by omega]; simp [fillL]
theorem cv4 (W : World) (g c : Nat) : (convert 48 9 (.slice (some ⟨g, 0, none⟩) 4 c)).run Tryd.prog W =
    (match W.cell? ⟨g, 0, none⟩, W.cell? ⟨g, 1, none⟩, W.cell? ⟨g, 2, none⟩, W.cell? ⟨g, 3, none⟩ with | some (.int .u8 a0), some (.int .u8 a1), some (.int .u8 a2), some (.int .u8 a3) => .ok (.string (strOfNums [a0, a1, a2, a3])) W | _, _, _, _ => slowC g 4 c W) := by
  split
  · rename_i a0 a1 a2 a3 h0 h1 h2 h3
    refine run_convert_bytes_arg W _ 5 Tryd.underlying48 Tryd.underlying5 g 0 4 c [a0, a1, a2, a3] rfl (fun i hi => ?_) _ Tryd.underlying9
    have hi' : i = 0 ∨ i = 1 ∨ i = 2 ∨ i = 3 := by omega
    rcases hi' with rfl | rfl | rfl | rfl
    · exact h0
    · exact h1
    · exact h2
    · exact h3
  · rfl
theorem four_eq {a b c a' b' c' : Int} {s : ByteArray} (h1 : a = a') (h2 : b = b') (h3 : c = c') : Ending.returned (.string (strOfNums [71, a, b, c] ++ s)) = .returned (.string (strOfNums [71, a', b', c'] ++ s)) := by subst h1 h2 h3; rfl
theorem row_four (w : World) (a b c d : Int) (a' b' c' d' : Nat) (ha : a = a') (hb : b = b') (hc : c = c') (hd : d = d') : RowF (w.alloc (.cells #[.int .u8 a, .int .u8 b, .int .u8 c, .int .u8 d] 5)) (.slice (some ⟨w.heap.size, 0, none⟩) 4 4) w.heap.size (u8s [a', b', c', d']) := by
  subst ha hb hc hd
  have hh := heap_alloc_new w (.cells #[.int .u8 (a' : Int), .int .u8 (b' : Int), .int .u8 (c' : Int), .int .u8 (d' : Int)] 5)
  refine ⟨4, rfl, Nat.le_refl _, by unfold maxLen; omega, fun j u hj => ?_, fun j hj => ⟨?_, free_of hh j⟩⟩
  · rw [cell_of hh, ← hj]
    have hj4 : j < 4 := by have := (List.getElem?_eq_some_iff.1 hj).1; simpa [u8s] using this
    have : j = 0 ∨ j = 1 ∨ j = 2 ∨ j = 3 := by omega
    rcases this with rfl | rfl | rfl | rfl <;> rfl
  · rw [cell_of hh]
    have : j = 0 ∨ j = 1 ∨ j = 2 ∨ j = 3 := by omega
    rcases this with rfl | rfl | rfl | rfl <;> rfl

set_option maxRecDepth 100000 in
set_option maxHeartbeats 8000000 in
theorem pbytes_long (pid : Nat) (st : Bool) (c : Nat) (bad : Bool) (body : ByteArray) (w : World) (hp : pid < 8192) (hc : c < 16) (hb : body.size = 184) :
    Calls Tryd.prog 19 #[.agg #[.int .i64 pid, .bool st, .int .i64 c, .bool bad, .string body]] w (Ret (.string (encG pid st c bad body)) w) := by
  have HE := Lib.hid (enc_long pid st c bad body hb)
  rw [strOf_nums] at HE
  obtain ⟨k0, k1, k2, k3, k4⟩ := rp_cells (heap_alloc_new w (.cells #[.int .i64 pid, .bool st, .int .i64 c, .bool bad, .string body] 33))
  have m1 : (pid : Int).tdiv 256 = ((pid / 256 : Nat) : Int) := by rw [Int.tdiv_eq_ediv_of_nonneg (by omega)]; rfl
  have m2 : (pid : Int).tmod 256 = ((pid % 256 : Nat) : Int) := by rw [Int.tmod_eq_emod_of_nonneg (by omega)]; rfl
  unfold headN at HE
  obtain ⟨x1, hx1⟩ : ∃ x, pid / 256 = x := ⟨_, rfl⟩
  obtain ⟨x2, hx2⟩ : ∃ x, pid % 256 = x := ⟨_, rfl⟩
  have hx1b : x1 < 32 := by omega
  have hx2b : x2 < 256 := by omega
  rw [hx1] at m1 HE; rw [hx2] at m2 HE
  clear hx1 hx2
  have w2 : IntKind.u8.wrap (x2 : Int) = (x2 : Int) := IntWalk.u8_in _ (by omega)
  have y0 : IntKind.u8.wrap (x1 : Int) = (x1 : Int) := IntWalk.u8_in _ (by omega)
  have y1 : IntKind.u8.wrap ((x1 : Int) + 128) = (x1 : Int) + 128 := IntWalk.u8_in _ (by omega)
  have y2 : IntKind.u8.wrap ((x1 : Int) + 64) = (x1 : Int) + 64 := IntWalk.u8_in _ (by omega)
  have y3 : IntKind.u8.wrap ((x1 : Int) + 128 + 64) = (x1 : Int) + 128 + 64 := IntWalk.u8_in _ (by omega)
  have y4 : IntKind.u8.wrap ((x1 : Int) + 192) = (x1 : Int) + 192 := IntWalk.u8_in _ (by omega)
  have hbi : (body.size : Int) = 184 := by omega
  have hne : body.toList.isEmpty = false := by
    rw [ByteArray.toList_eq, ← Bool.not_eq_true, List.isEmpty_iff, ← List.length_eq_zero_iff, Array.length_toList]
    show ¬ body.size = 0; omega
  have hsn : ∀ xs : List Int, (strOfNums xs).size = xs.length := strOfNums_size
  have hsa : ∀ a b : ByteArray, (a ++ b).size = a.size + b.size := fun a b => ByteArray.size_append
  have w3 : IntKind.u8.wrap (16 + (c : Int)) = 16 + (c : Int) := IntWalk.u8_in _ (by omega)
  have hc4 := cv4
  cases bad <;> cases st
  all_goals
    go_enter Tryd.func19, Tryd.ntmps19
    go_wp2_with fail
    go_ret
    refine ⟨Eq.trans (four_eq ?_ ?_ ?_) (congrArg (fun s => Ending.returned (.string s)) HE.out), by repeat (first | exact Same.refl _ _ | refine Same.drew ?_ | refine Same.alloc ?_ _)⟩
    all_goals (simp)
    all_goals (try omega)

set_option maxRecDepth 100000 in
set_option maxHeartbeats 8000000 in
theorem pbytes_short (pid : Nat) (st : Bool) (c : Nat) (bad : Bool) (body : ByteArray) (w : World) (hp : pid < 8192) (hc : c < 16) (hb : body.size < 184) :
    Calls Tryd.prog 19 #[.agg #[.int .i64 pid, .bool st, .int .i64 c, .bool bad, .string body]] w (Ret (.string (encG pid st c bad body)) w) := by
  obtain ⟨i0, hi, hz0, hz1, hz2⟩ := info_parts Tryd.infoB
  obtain ⟨n, hn⟩ : ∃ n, body.size + n = 183 := ⟨183 - body.size, by omega⟩
  obtain ⟨h, hh⟩ : ∃ h, h = howG body.size := ⟨_, rfl⟩
  have HE := Lib.hid (enc_short pid st c bad body n hn h hh)
  obtain ⟨k0, k1, k2, k3, k4⟩ := rp_cells (heap_alloc_new w (.cells #[.int .i64 pid, .bool st, .int .i64 c, .bool bad, .string body] 33))
  have m1 : (pid : Int).tdiv 256 = ((pid / 256 : Nat) : Int) := by rw [Int.tdiv_eq_ediv_of_nonneg (by omega)]; rfl
  have m2 : (pid : Int).tmod 256 = ((pid % 256 : Nat) : Int) := by rw [Int.tmod_eq_emod_of_nonneg (by omega)]; rfl
  unfold headN at HE
  obtain ⟨x1, hx1⟩ : ∃ x, pid / 256 = x := ⟨_, rfl⟩
  obtain ⟨x2, hx2⟩ : ∃ x, pid % 256 = x := ⟨_, rfl⟩
  have hx1b : x1 < 32 := by omega
  have hx2b : x2 < 256 := by omega
  rw [hx1] at m1 HE; rw [hx2] at m2 HE
  clear hx1 hx2
  have w2 : IntKind.u8.wrap (x2 : Int) = (x2 : Int) := IntWalk.u8_in _ (by omega)
  have y0 : IntKind.u8.wrap (x1 : Int) = (x1 : Int) := IntWalk.u8_in _ (by omega)
  have y1 : IntKind.u8.wrap ((x1 : Int) + 128) = (x1 : Int) + 128 := IntWalk.u8_in _ (by omega)
  have y2 : IntKind.u8.wrap ((x1 : Int) + 64) = (x1 : Int) + 64 := IntWalk.u8_in _ (by omega)
  have y3 : IntKind.u8.wrap ((x1 : Int) + 128 + 64) = (x1 : Int) + 128 + 64 := IntWalk.u8_in _ (by omega)
  have y4 : IntKind.u8.wrap ((x1 : Int) + 192) = (x1 : Int) + 192 := IntWalk.u8_in _ (by omega)
  have hne8 : ¬ (body.size : Int) = 184 := by omega
  have hmi : (183 : Int) - (body.size : Int) = (n : Int) := by omega
  have hn8 : IntKind.u8.wrap (n : Int) = (n : Int) := IntWalk.u8_in _ (by omega)
  have hn0 : ¬ (n : Int) < 0 := by omega
  have hsa : ∀ a b : ByteArray, (a ++ b).size = a.size + b.size := fun a b => ByteArray.size_append
  have hsz : ∀ l : List Nat, (strOf l).size = l.length := size_strOf
  have hcs : (h = 2 ∧ body.toList.isEmpty = true) ∨ (h = 3 ∧ body.toList.isEmpty = false) := by
    by_cases h0 : body.size = 0
    · left
      refine ⟨by rw [hh]; unfold howG; rw [if_neg (by omega), if_pos h0], ?_⟩
      rw [ByteArray.toList_eq, List.isEmpty_iff, ← List.length_eq_zero_iff, Array.length_toList]; exact h0
    · right
      refine ⟨by rw [hh]; unfold howG; rw [if_neg (by omega), if_neg h0], ?_⟩
      rw [ByteArray.toList_eq, ← Bool.not_eq_true, List.isEmpty_iff, ← List.length_eq_zero_iff, Array.length_toList]; exact h0
  have w3 : IntKind.u8.wrap (32 + (c : Int)) = 32 + (c : Int) := IntWalk.u8_in _ (by omega)
  have w4 : IntKind.u8.wrap (48 + (c : Int)) = 48 + (c : Int) := IntWalk.u8_in _ (by omega)
  obtain ⟨B, hB⟩ : ∃ B, x1 + bad.toNat * 128 + st.toNat * 64 = B := ⟨_, rfl⟩
  obtain ⟨H, hH⟩ : ∃ H, 16 * h + c = H := ⟨_, rfl⟩
  rw [hB, hH] at HE
  generalize encG pid st c bad body = E at HE
  have hBb : B < 256 := by cases bad <;> cases st <;> simp at hB <;> omega
  have ht1 : (((w.alloc (.cells #[.int .i64 pid, .bool st, .int .i64 c, .bool bad, .string body] 33)).heap.size : Nat)) = w.heap.size + 1 := World.size_alloc _ _
  clear hh hb
  rcases hcs with ⟨rfl, he⟩ | ⟨rfl, he⟩
  all_goals cases bad <;> cases st
  all_goals
    go_enter Tryd.func19, Tryd.ntmps19
    go_upto_region 11 with fail
    go_cut [5] (fun s5 wx => ∃ g, RowF wx s5 g (u8s [71, B, x2, H]) ∧ w.heap.size < g ∧ wx.cell? ⟨w.heap.size, 4, none⟩ = some (.string body) ∧ Same [] w wx)
    case first =>
      go_wp2_with fail
      go_meet
      refine ⟨w.heap.size + 1, ?_, by omega, ?_, by repeat (first | exact Same.refl _ _ | refine Same.alloc ?_ _)⟩
      · rw [← World.size_alloc w]
        exact row_four _ _ _ _ _ 71 B x2 H rfl (by simp at hB; omega) rfl (by omega)
      · first | exact k4 | (rw [World.cell?_alloc_past _ _ _ (by simp)]; exact k4)
    obtain ⟨g, hr, hg, k4', hs⟩ := hcut
    obtain ⟨cap, hse, r1, r2, _, _⟩ := id hr
    subst hse
    have HR := Lib.hid hr; have HS := Lib.hid hs; have K4 := Lib.hid k4'
    clear hr hs k0 k1 k2 k3 k4
    go_upto_region 14 with fail
    go_cut [5] (fun s5 wx => ∃ g, RowF wx s5 g (u8s ([71, B, x2, H] ++ n :: fillL 0)) ∧ w.heap.size < g ∧ wx.cell? ⟨w.heap.size, 4, none⟩ = some (.string body) ∧ Same [] w wx)
    case first =>
      go_wp2_with (first | (at_builtin; refine wpList_append_rowF rfl (.tmp 46) (.tmp 49) 48 rfl 5 i0 (.int .u8 0) Tryd.underlying48 hi hz0 hz1 hz2 rfl _ g (u8s [71, B, x2, H]) rfl (by exact HR.out.same (S := []) ((Same.refl [] _).alloc _) (by simp)) ⟨_, 0, none⟩ 1 (.int .u8 (n : Int)) rfl (by rw [Addr.add_lit]; exact cell_of (heap_alloc_new _ _) _) rfl (by simp [u8s]) ?_; intro v' w4 g' hrow hsm hat; have HROW := Lib.hid hrow; have HSM := Lib.hid hsm; have HAT := Lib.hid hat; clear hrow hsm hat) | fail)
      go_meet
      refine ⟨g', ?_, ?_, ?_, ?_⟩
      · have := HROW.out; rw [u8s_snoc] at this; exact this
      · have h1 := HAT.out; have h2 := HS.out.size; rw [World.size_alloc] at h1; omega
      · exact HSM.out.cell ((World.cell?_alloc_past _ _ _ (World.block_lt_of_cell? wc _ k4')).trans k4') (by simp; omega)
      · exact (HS.out.alloc _).trans HSM.out (fun x hx hlt => by simp at hx; omega)
    clear HR HS K4 k4' r1 r2
    obtain ⟨g, hr, hg, k4, hs⟩ := hcut
    have HR := Lib.hid hr; have HS := Lib.hid hs; have K4 := Lib.hid k4
    clear hr hs k4
    go_wp2_with fail
    go_loopw [7, 5, 8] (fun i v _ wr => ∃ (m g : Nat), m ≤ n ∧ i = .int .i64 m ∧ RowF wr v g (u8s ([71, B, x2, H] ++ n :: fillL m)) ∧ w.heap.size < g ∧ wr.cell? ⟨w.heap.size, 4, none⟩ = some (.string body) ∧ Same [] w wr) (fun i _ _ _ => n - (intOf i).toNat)
    case atStart => exact ⟨0, g, Nat.zero_le _, rfl, HR.out, hg, K4.out, HS.out⟩
    case round =>

      obtain ⟨m, g, hm, rfl, hr, hg, k4, hs⟩ := hrel
      have HR := Lib.hid hr; have HS := Lib.hid hs; have K4 := Lib.hid k4
      clear hr hs
      by_cases hlt : m < n
      · have hgw : g ≠ w.heap.size := by omega
        by_cases h0 : m = 0
        · subst h0
          go_wp2_with (first | (at_builtin; refine wpList_append_rowF rfl (.tmp 58) (.tmp 60) 48 rfl 5 i0 (.int .u8 0) Tryd.underlying48 hi hz0 hz1 hz2 rfl _ g (u8s ([71, B, x2, H] ++ n :: fillL 0)) rfl (by exact HR.out.same (S := []) ((Same.refl [] _).alloc _) (by simp)) ⟨_, 0, none⟩ 1 (.int .u8 0) rfl (by rw [Addr.add_lit]; exact cell_of (heap_alloc_new _ _) _) rfl (by first | (simp [u8s, length_fillL]; done) | (simp [u8s, length_fillL]; omega)) ?_; intro v' w4 g' hrow hsm hat; have HROW := Lib.hid hrow; have HSM := Lib.hid hsm; have HAT := Lib.hid hat; clear hrow hsm hat) | fail)
          go_roundw
          case rel =>
            refine ⟨0 + 1, g', hlt, by go_num, ?_, ?_, ?_, ?_⟩
            · have := HROW.out
              have e : ([71, B, x2, H] ++ n :: fillL 0) ++ [0] = [71, B, x2, H] ++ n :: fillL (0 + 1) := by rw [← fillL_snoc 0, if_pos rfl]; simp
              rw [show (Value.int IntKind.u8 0) = .int .u8 ((0 : Nat) : Int) from rfl, u8s_snoc, e] at this; exact this
            · have h1 := HAT.out; have h2 := HS.out.size; rw [World.size_alloc] at h1; omega
            · exact HSM.out.cell ((World.cell?_alloc_past _ _ _ (World.block_lt_of_cell? _ _ K4.out)).trans K4.out) (by simp; omega)
            · exact (HS.out.alloc _).trans HSM.out (fun x hx hlt => by simp at hx; omega)
          case measure => simp [intOf]; omega
        · have h0i : ¬ (m : Int) = 0 := by omega
          go_wp2_with (first | (at_builtin; refine wpList_append_rowF rfl (.tmp 58) (.tmp 60) 48 rfl 5 i0 (.int .u8 0) Tryd.underlying48 hi hz0 hz1 hz2 rfl _ g (u8s ([71, B, x2, H] ++ n :: fillL m)) rfl (by exact HR.out.same (S := []) ((Same.refl [] _).alloc _) (by simp)) ⟨_, 0, none⟩ 1 (.int .u8 255) rfl (by rw [Addr.add_lit]; exact cell_of (heap_alloc_new _ _) _) rfl (by first | (simp [u8s, length_fillL]; done) | (simp [u8s, length_fillL]; omega)) ?_; intro v' w4 g' hrow hsm hat; have HROW := Lib.hid hrow; have HSM := Lib.hid hsm; have HAT := Lib.hid hat; clear hrow hsm hat) | fail)
          go_roundw
          case rel =>
            refine ⟨m + 1, g', hlt, by go_num, ?_, ?_, ?_, ?_⟩
            · have := HROW.out
              have e : ([71, B, x2, H] ++ n :: fillL m) ++ [255] = [71, B, x2, H] ++ n :: fillL (m + 1) := by rw [← fillL_snoc m, if_neg h0]; simp
              rw [show (Value.int IntKind.u8 255) = .int .u8 ((255 : Nat) : Int) from rfl, u8s_snoc, e] at this; exact this
            · have h1 := HAT.out; have h2 := HS.out.size; rw [World.size_alloc] at h1; omega
            · exact HSM.out.cell ((World.cell?_alloc_past _ _ _ (World.block_lt_of_cell? _ _ K4.out)).trans K4.out) (by simp; omega)
            · exact (HS.out.alloc _).trans HSM.out (fun x hx hlt => by simp at hx; omega)
          case measure => simp [intOf]; omega
      · obtain rfl : m = n := by omega
        have hcv := rowF_string HR.out
        have hfl := length_fillL
        go_wp2_with fail
        go_ret
        exact ⟨congrArg (fun s => Ending.returned (.string s)) HE.out, HS.out⟩

/-- All packets that may be. -/
theorem pbytes_any (pid : Nat) (st : Bool) (c : Nat) (bad : Bool) (body : ByteArray) (w : World) (hp : pid < 8192) (hc : c < 16) (hb : body.size ≤ 184) :
    Calls Tryd.prog 19 #[.agg #[.int .i64 pid, .bool st, .int .i64 c, .bool bad, .string body]] w (Ret (.string (encG pid st c bad body)) w) := by
  by_cases h : body.size = 184
  · exact pbytes_long pid st c bad body w hp hc h
  · exact pbytes_short pid st c bad body w hp hc (by omega)

theorem plain14 (pp : Int) (st : Bool) (c : Int) (bad : Bool) (body : ByteArray) (w : World) :
    Calls Tryd.prog 18 #[.agg #[.int .i64 pp, .bool st, .int .i64 c, .bool bad, .string body]] w (Ret (.agg #[.int .i64 pp, .bool st, .int .i64 c, .bool bad, .string body]) w) := by
  go_enter Tryd.func18, Tryd.ntmps18
  have hb := heap_alloc_new (w.alloc (.cells #[.int .i64 pp, .bool st, .int .i64 c, .bool bad, .string body] 37)) (.cells #[.int .i64 pp, .bool st, .int .i64 c, .bool bad, .string body] 33)
  rw [World.size_alloc] at hb
  obtain ⟨k0, k1, k2, k3, k4⟩ := rp_cells hb
  clear hb
  go_wp2
  refine bodyPost_ret (v := .agg #[.int .i64 pp, .bool st, .int .i64 c, .bool bad, .string body]) ?_ rfl ⟨rfl, ((Same.refl [] w).alloc _).alloc _⟩
  simp [results, Tryd.results18, go_sem, k0, k1, k2, k3, k4]

theorem rpcheck_any (pid : Int) (st : Bool) (count : Int) (bad : Bool) (body : ByteArray) (w : World) :
    Calls Tryd.prog 17 #[.agg #[.int .i64 pid, .bool st, .int .i64 count, .bool bad, .string body]] w (NumPost w (chkG pid count body)) := by
  rcases chk_cases pid count body with ⟨h1, he⟩ | ⟨h1, h2, he⟩ | ⟨h1, h2, h3, he⟩ | ⟨h1, h2, h3, h4, he⟩ | ⟨h1, h2, h3, h4, h5, he⟩ | ⟨h1, h2, h3, h4, h5, he⟩
  all_goals
    rw [he]
    clear he
    go_enter Tryd.func17, Tryd.ntmps17
    go_wp2
    go_ret
    exact ⟨rfl, (Same.refl _ w).alloc _⟩
end Go.Proofs.YtpnbhgmcfooppaaDoor
