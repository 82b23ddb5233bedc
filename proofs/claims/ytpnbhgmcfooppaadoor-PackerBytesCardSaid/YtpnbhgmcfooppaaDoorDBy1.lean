/- Packets' bytes, one behind the other (packer.Bytes). Condition: the table 'widths' lies; fewer than 2^36 packets. -/
import Derived.Test.YtpnbhgmcfooppaaDoorDEn3
import Derived.Test.YtpnbhgmcfooppaaDoorDPq1
import Derived.Test.YtpnbhgmcfooppaaDoorOpenPkts
namespace Go.Proofs.YtpnbhgmcfooppaaDoor
open Go.RowKit
set_option linter.unusedSimpArgs false
set_option linter.unusedVariables false

def chkP (q : PkD) : Int := chkG q.pid q.c q.body
def encP (q : PkD) : ByteArray := encG q.pid.toNat q.st q.c.toNat q.bad q.body
def catP : List PkD → ByteArray
  | [] => ⟨#[]⟩
  | q :: l => encP q ++ catP l
theorem catP_append : ∀ (a b : List PkD), catP (a ++ b) = catP a ++ catP b
  | [], b => (ByteArray.empty_append).symm
  | q :: a, b => by rw [List.cons_append, catP, catP, catP_append a b, ByteArray.append_assoc]
theorem catP_one (q : PkD) : catP [q] = encP q := ByteArray.append_empty
theorem size_encP {q : PkD} (h : chkP q = 0) : (encP q).size = 188 := size_enc _ _ _ _ _ (chk_range h).2.2
theorem size_catP : ∀ (l : List PkD), (∀ q ∈ l, chkP q = 0) → (catP l).size = 188 * l.length
  | [], _ => rfl
  | q :: l, h => by
    rw [catP, ByteArray.size_append, size_encP (h q List.mem_cons_self), size_catP l (fun x hx => h x (List.mem_cons_of_mem _ hx)), List.length_cons]; omega
/-- What Bytes answers. -/
def BytesPost (w : World) (ps : List PkD) (e : Ending) (w' : World) : Prop := Same [] w w' ∧
  (((∀ q ∈ ps, chkP q = 0) ∧ e = .returned (.tuple #[.string (catP ps), .int .i64 0])) ∨
   (∃ pre q post, ps = pre ++ q :: post ∧ (∀ x ∈ pre, chkP x = 0) ∧ chkP q ≠ 0 ∧ e = .returned (.tuple #[.string ⟨#[]⟩, .int .i64 (chkP q)])))

set_option maxRecDepth 100000 in
set_option maxHeartbeats 8000000 in
theorem bytes_any (ps : List PkD) (v : Value) (w : World) (hp : PktsAt w v ps) (ht : Tab w) (hl : ps.length < 68719476736) :
    Calls Tryd.prog 20 #[v] w (BytesPost w ps) := by
  obtain ⟨ad, cp, rfl, hlc, hcm, hcell⟩ := hp
  have HC := Lib.hid hcell; have HT := Lib.hid ht
  clear hcell ht
  go_enter Tryd.func20, Tryd.ntmps20
  go_wp2_with fail
  have hbu : Lib.IsBuilder 67 5 w.heap.size w.heap.size (Lib.byteCells (catP []).data.toList) (w.alloc (.cells #[.pointer none, .slice none 0 0] 67)) :=
    .inl ⟨Nat.le_refl _, .slice none 0 0, heap_alloc_new w _, World.ownsRow_nil _ _ _ _, by simp [Value.ownBlock]⟩
  have hs : Same [] w (w.alloc (.cells #[.pointer none, .slice none 0 0] 67)) := (Same.refl [] w).alloc _
  have hsz : w.heap.size < (w.alloc (.cells #[.pointer none, .slice none 0 0] 67)).heap.size := by rw [World.size_alloc]; omega
  generalize w.alloc (.cells #[.pointer none, .slice none 0 0] 67) = w1 at hbu hs hsz ⊢
  have HBU := Lib.hid hbu; have HS := Lib.hid hs
  clear hbu hs
  go_loopw [11] (fun i wr => ∃ pre ls : List PkD, ps = pre ++ ls ∧ i = .int .i64 pre.length ∧ (∀ q ∈ pre, chkP q = 0) ∧ Lib.IsBuilder 67 5 w.heap.size w.heap.size (Lib.byteCells (catP pre).data.toList) wr ∧ w.heap.size < wr.heap.size ∧ Same [] w wr) (fun i _ => ps.length - (intOf i).toNat)
  case atStart => exact ⟨[], ps, rfl, rfl, by simp, HBU.out, hsz, HS.out⟩
  case round =>
    obtain ⟨pre, ls, hL, rfl, hok, hbu, hsz, hs⟩ := hrel
    have HBU := Lib.hid hbu; have HS := Lib.hid hs; have HOK := Lib.hid hok
    have hpl : pre.length ≤ ps.length := by rw [hL]; simp
    clear hbu hs hok
    cases ls with
    | nil =>
      have hL2 : ps = pre := by rw [hL]; simp
      subst hL2
      have hlt : ¬ (ps.length : Int) < (ps.length : Int) := by omega
      clear hL
      have HSB := Lib.hid (Tryd.sb_string w.heap.size w.heap.size (catP ps).data.toList _ HBU.out (by omega))
      go_wp2_with fail
      (with_reducible refine HSB.out.mono ?_)
      rintro e w5 ⟨rfl, hb5⟩
      have HS5 := Lib.hid (same_below HS.out hb5)
      clear hb5
      go_wp2_with fail
      go_ret2
      exact ⟨HS5.out, .inl ⟨HOK.out, rfl⟩⟩
    | cons q ls =>
      have hlen : pre.length < ps.length := by rw [hL]; simp
      have hlt : (pre.length : Int) < (ps.length : Int) := by omega
      obtain ⟨a, rfl, hsp, c0, c1, c2, c3, c4⟩ := HC.out pre.length hlen
      obtain ⟨g, o, sp⟩ := a
      simp only at hsp c0 c1 c2 c3 c4
      subst hsp
      have hq : ps[pre.length] = q := by simp [hL]
      rw [hq] at c0 c1 c2 c3 c4
      have d0 := HS.out.cell c0 (by simp); have d1 := HS.out.cell c1 (by simp); have d2 := HS.out.cell c2 (by simp); have d3 := HS.out.cell c3 (by simp); have d4 := HS.out.cell c4 (by simp)
      have HL := Lib.hid hL
      clear c0 c1 c2 c3 c4 hL hq
      obtain ⟨pp, st, cc, bad, body⟩ := q
      simp only at d0 d1 d2 d3 d4
      have HE := Lib.hid (fun W hT => encode_any pp st cc bad body W hT)
      unfold EncPost at HE
      go_wp2_with fail
      have hsA : Same [] wr (wr.alloc (.cells #[.int .i64 pp, .bool st, .int .i64 cc, .bool bad, .string body] 37)) := (Same.refl [] wr).alloc _
      (with_reducible refine (HE.out _ (HT.out.same (HS.out.trans_nil hsA) (by simp))).mono ?_)
      rintro e w4 ⟨s4, rfl⟩
      have HS4 := Lib.hid ((HS.out.trans_nil hsA).trans_nil s4)
      have hbu4 := builder_same HBU.out (hsA.trans_nil s4) (by simp)
      have hsz4 : w.heap.size < w4.heap.size := Nat.lt_of_lt_of_le hsz (hsA.trans_nil s4).size
      clear hsA s4 HE d0 d1 d2 d3 d4
      by_cases hk : chkG pp cc body = 0
      · have HK := Lib.hid hk
        rw [if_pos hk, hk]
        obtain ⟨U, hU⟩ : ∃ U, U = encG pp.toNat st cc.toNat bad body := ⟨_, rfl⟩
        rw [← hU]
        have hU8 : U.size = 188 := by rw [hU]; exact size_enc _ _ _ _ _ (chk_range hk).2.2
        have hcz := size_catP pre HOK.out
        have HWR := Lib.hid (Tryd.sb_write w.heap.size w.heap.size (Lib.byteCells (catP pre).data.toList) U w4 hbu4 (by rw [Lib.byteCells_length, Array.length_toList]; have h9 : (catP pre).data.size = 188 * pre.length := hcz; omega) (by omega))
        have HU := Lib.hid hU
        clear hbu4 hk hU
        go_wp2_with fail
        (with_reducible refine HWR.out.mono ?_)
        rintro e w5 ⟨rfl, hbu5, hb5⟩
        have HS5 := Lib.hid (same_below HS4.out hb5)
        have hsz5 : w.heap.size < w5.heap.size := Nat.lt_of_lt_of_le hsz4 hb5.size
        have HBU5 := Lib.hid hbu5
        clear hbu5 hb5 HWR
        go_wp2_with fail
        go_roundw
        case rel =>
          refine ⟨pre ++ [⟨pp, st, cc, bad, body⟩], ls, by rw [HL.out]; simp, by simp, fun x hx => ?_, ?_, hsz5, HS5.out⟩
          · rcases List.mem_append.1 hx with hx | hx
            · exact HOK.out x hx
            · simp at hx; subst hx; exact HK.out
          · have hcells : Lib.byteCells (catP pre).data.toList ++ Lib.strCells U = Lib.byteCells (catP (pre ++ [⟨pp, st, cc, bad, body⟩])).data.toList := by
              rw [catP_append, catP_one, ByteArray.data_append, Array.toList_append]
              show _ = Lib.byteCells ((catP pre).data.toList ++ (encG pp.toNat st cc.toNat bad body).data.toList)
              rw [← HU.out]
              simp [Lib.byteCells, Lib.strCells]
            have := HBU5.out
            rw [hcells] at this
            exact .inr this
        case measure => simp [intOf]; omega
      · rw [if_neg hk]
        have HK := Lib.hid hk
        obtain ⟨y, hy⟩ : ∃ y, chkG pp cc body = y := ⟨_, rfl⟩
        have hy0 : ¬ y = 0 := by rw [← hy]; exact hk
        rw [hy]
        have HY := Lib.hid hy
        clear hbu4 hk hy
        go_wp2_with fail
        go_ret2
        exact ⟨HS4.out, .inr ⟨pre, ⟨pp, st, cc, bad, body⟩, ls, HL.out, HOK.out, HK.out, by rw [show chkP ⟨pp, st, cc, bad, body⟩ = y from HY.out]; rfl⟩⟩

end Go.Proofs.YtpnbhgmcfooppaaDoor
