/- The walk of the law BitsReads: whatever calls, it answers true. No condition. -/
import Derived.Test.YtlaafjdlmocfnaaBitsReads1
import Derived.Test.YtlaafjdlmocfnaaBitsBack
namespace Go.Proofs.Ytlaafjdlmocfnaa
open Go.RowKit
set_option linter.unusedSimpArgs false
set_option linter.unusedVariables false

set_option maxHeartbeats 20000000 in
set_option maxRecDepth 100000 in
theorem bitsReads_few (s : ByteArray) (v : Value) (ops : List OpD) (w : World) (hs : s.size ≤ 100) (h : OpsAt w v ops) (hf : fewB ops = true) :
    Calls Try.prog 4 #[.string s, v] w (AwakePost w) := by
  have H := Lib.hid h
  obtain ⟨ad, c, rfl, hlc, hcm, _⟩ := h
  have hn60 : ops.length ≤ 60 := by simp only [fewB, Bool.and_eq_true, decide_eq_true_eq] at hf; exact hf.2
  unfold maxLen at hcm
  go_enter Try.func4, Try.ntmps4
  go_wp2_with (first 
    | (go_at_call 9; refine (few_any _ _ _ H.out).mono ?_; rintro e w' ⟨rfl, rfl⟩) 
    | (go_at_call 16; refine (read_any _ _).mono ?_; rintro e w1 ⟨rfl, hw1⟩; have HI0 := isIn_new w s; rw [hw1] at HI0; have HS0 := (Same.refl [] w).alloc (.cells #[.int .i64 0, .int .i64 0, .string s] 57); rw [hw1] at HS0; have hsz0 : w1.heap.size = w.heap.size + 1 := (by rw [← hw1]; simp); have HI := Lib.hid HI0; have HS := Lib.hid HS0; clear HI0 HS0 hw1)
    | (go_at_call 17; refine (rofs_ok s _ (by omega)).mono ?_; rintro e w2 ⟨u, rfl, hn, hs2⟩))
  have hinv0 : RInv w w2 w.heap.size 0 0 s u := ⟨hs2.heap HI.out (by simp), by have := Reads.of_own hn.1; rwa [length_ofStr] at this, fun k hk => ⟨by have := hn.2 k hk; omega, own_lt hn.1 k hk⟩, HS.out.trans_nil hs2, rfl, Nat.zero_le _⟩
  have hush : (∃ g c, u = .slice (some ⟨g, 0, none⟩) (8 * s.size) c ∧ 8 * s.size ≤ c ∧ c ≤ maxLen) ∨ (u = .slice none 0 0 ∧ s.size = 0) := by
    rcases hn.1.2 with ⟨h1, h2⟩ | ⟨g, cap, cur, h1, h2, h3, h4, h5⟩
    · right; refine ⟨h1, ?_⟩; rw [length_ofStr] at h2; omega
    · left
      have h6 := hn.1
      rw [h1] at h6
      obtain ⟨_, _, _, _, h7, h8⟩ := row_cells h6
      rw [length_ofStr] at h1 h7
      exact ⟨g, cap, h1, h7, h8⟩
  have HINV := Lib.hid (show RInv w w2 w.heap.size 0 0 s u ∧ _ from ⟨hinv0, hush⟩)
  have hul : ∃ ua uc, u = .slice ua (8 * s.size) uc := by
    rcases hush with ⟨g, c, h1, _⟩ | ⟨h1, h2⟩
    · exact ⟨_, _, h1⟩
    · exact ⟨none, 0, by rw [h1, h2]⟩
  obtain ⟨ua, uc, rfl⟩ := hul
  have huc : 8 * s.size ≤ uc := by
    rcases hush with ⟨g, c, h1, h2, _⟩ | ⟨h1, h2⟩
    · cases h1; exact h2
    · omega
  clear hn hs2 hinv0 hush HI HS
  go_loopw [9, 7, 8] (fun i at_ e wr => ∃ (k p : Nat) (er : Int), k ≤ ops.length ∧ i = .int .i64 k ∧ at_ = .int .i64 p ∧ e = .int .i64 er ∧ RInv w wr w.heap.size p er s (.slice ua (8 * s.size) uc)) (fun i _ _ _ => ops.length - (intOf i).toNat)
  case atStart => exact ⟨0, 0, 0, Nat.zero_le _, rfl, rfl, rfl, HINV.out.1⟩
  case round =>
    obtain ⟨k, p, er, hk, rfl, rfl, rfl, hinv⟩ := hrel
    have HV := Lib.hid hinv
    clear hinv
    by_cases hlt : k < ops.length
    · obtain ⟨ad', c', hv', _, _, hcells⟩ := ops_cells H.out HV.out.same
      cases hv'
      obtain ⟨a, rfl, hsp, hok, k0, k1, k2, k3⟩ := hcells k hlt
      obtain ⟨g, o, sp⟩ := a
      simp only at hsp; subst hsp
      clear hcells
      generalize hop : ops[k] = op at *
      clear hop
      cases ht : op.t with
      | true =>
        obtain ⟨p', e', t', hcall, hp', hcs⟩ := text_case w.heap.size p er s op.n hs HV.out.hp
        have HCL := Lib.hid hcall
        clear hcall
        rw [ht] at k0
        have hself : (t'.toList == t'.toList) = true := by simp
        rcases hcs with ⟨he, rfl, rfl, rfl⟩ | ⟨rfl, hn, rfl, rfl, rfl⟩ | ⟨rfl, hn, hn2, hsh, rfl, rfl, rfl⟩ | ⟨rfl, hn, rfl, rfl, rfl⟩ | ⟨m, rfl, hm, hpm, rfl, rfl, rfl⟩
        case inr.inr.inr.inr =>
          rw [hm] at HCL
          have hbx := op_box wr op
          rw [ht, hm] at hbx
          have HBX := Lib.hid hbx
          clear hbx
          rw [hm] at k2
          clear hm
          have HPL := Lib.hid (length_piece s p (8 * m) hpm)
          obtain ⟨V, hVd⟩ : ∃ V, V = sliced ua p (p + 8 * m) uc 1 := ⟨_, rfl⟩
          have hrun := run_piece ua (8 * s.size) uc p (8 * m) ((p : Int) + 8 * (m : Int)) (by omega) (by omega)
          rw [← hVd] at hrun
          have HPR := Lib.hid (fun W2 (h2 : Same [] wr W2) => HV.out.pieceV h2 (8 * m) hpm)
          rw [← hVd] at HPR
          clear hVd
          have hpm2 : (p : Int) + 8 * (m : Int) ≤ 8 * (s.size : Int) := by omega
          go_wp2_with (first
            | (go_at_call 15; refine (rbytes_ok _ (piece s p (8 * m)) _ (HPR.out _ (by exact (Same.refl [] wr).alloc _)).1 (by have := HPL.out; omega) (HPR.out _ (by exact (Same.refl [] wr).alloc _)).2).mono ?_; rintro e w4 ⟨rfl, hs4⟩; obtain ⟨z0, z1, z2, z3, v0, v1, v2, v3⟩ := cells4' (hs4.heap HBX.out (by simp)); have HS4 := Lib.hid hs4; clear hs4)
            | (go_at_call 19; refine (HCL.out _ (HV.out.quiet (((Same.refl [] wr).alloc _).trans_nil HS4.out)).rd).mono ?_; rintro e w5 ⟨rfl, hin, hs5⟩; have HR5 := Lib.hid (RInv.read (HV.out.quiet (((Same.refl [] wr).alloc _).trans_nil HS4.out)) hin hs5 hp'); clear hin hs5)
            | (go_at_call 21; refine (at_ok _ _ _ _ _ HR5.out.rd).mono ?_; rintro e w6 ⟨rfl, rfl⟩)
            | (go_at_call 22; refine (left_ok _ _ _ _ _ HR5.out.rd (by omega) hp').mono ?_; rintro e w6 ⟨rfl, rfl⟩)
            | (go_at_call 23; refine (err_ok _ _ _ _ _ HR5.out.rd).mono ?_; rintro e w6 ⟨rfl, rfl⟩))
          all_goals go_roundw
          case rel => exact ⟨k + 1, _, _, by omega, by go_num, rfl, rfl, HR5.out⟩
          case measure => simp [intOf]; omega
        all_goals
          go_wp2_with (first
            | (go_at_call 19; refine (HCL.out _ (HV.out.quiet ((Same.refl [] wr).alloc _)).rd).mono ?_; rintro e w5 ⟨rfl, hin, hs5⟩; have HR5 := Lib.hid (RInv.read (HV.out.quiet ((Same.refl [] wr).alloc _)) hin hs5 hp'); clear hin hs5)
            | (go_at_call 21; refine (at_ok _ _ _ _ _ HR5.out.rd).mono ?_; rintro e w6 ⟨rfl, rfl⟩)
            | (go_at_call 22; refine (left_ok _ _ _ _ _ HR5.out.rd (by omega) hp').mono ?_; rintro e w6 ⟨rfl, rfl⟩)
            | (go_at_call 23; refine (err_ok _ _ _ _ _ HR5.out.rd).mono ?_; rintro e w6 ⟨rfl, rfl⟩))
        all_goals
          go_roundw
          case rel => exact ⟨k + 1, _, _, by omega, by go_num, rfl, rfl, HR5.out⟩
          case measure => simp [intOf]; omega
      | false =>
        obtain ⟨p', e', x', hcall, hp', hcs⟩ := get_case w.heap.size p er s op.n hs HV.out.hp
        have HCL := Lib.hid hcall
        clear hcall
        rw [ht] at k0
        rcases hcs with ⟨he, rfl, rfl, rfl⟩ | ⟨rfl, hn, rfl, rfl, rfl⟩ | ⟨rfl, hn, rfl, rfl, rfl⟩ | ⟨rfl, hn, hn2, hsh, rfl, rfl, rfl⟩ | ⟨m, rfl, hm, hm64, hpm, rfl, rfl, rfl⟩
        case inr.inr.inr.inr =>
          rw [hm] at HCL k2
          clear hm
          have HPL := Lib.hid (length_piece s p (m) hpm)
          obtain ⟨V, hVd⟩ : ∃ V, V = sliced ua p (p + m) uc 1 := ⟨_, rfl⟩
          have hrun := run_piece ua (8 * s.size) uc p (m) ((p : Int) + (m : Int)) (by omega) (by omega)
          rw [← hVd] at hrun
          have HPR := Lib.hid (fun W2 (h2 : Same [] wr W2) => HV.out.pieceV h2 (m) hpm)
          rw [← hVd] at HPR
          clear hVd
          have hpm2 : (p : Int) + (m : Int) ≤ 8 * (s.size : Int) := by omega
          go_wp2_with (first
            | (go_at_call 18; refine (rnumber_ok _ (piece s p (m)) _ (HPR.out _ (by exact (Same.refl [] wr).alloc _)).1 (by have := HPL.out; omega)).mono ?_; rintro e w4 ⟨rfl, rfl⟩)
            | (go_at_call 20; refine (HCL.out _ (HV.out.quiet ((Same.refl [] wr).alloc _)).rd).mono ?_; rintro e w5 ⟨rfl, hin, hs5⟩; have HR5 := Lib.hid (RInv.read (HV.out.quiet ((Same.refl [] wr).alloc _)) hin hs5 hp'); clear hin hs5)
            | (go_at_call 21; refine (at_ok _ _ _ _ _ HR5.out.rd).mono ?_; rintro e w6 ⟨rfl, rfl⟩)
            | (go_at_call 22; refine (left_ok _ _ _ _ _ HR5.out.rd (by omega) hp').mono ?_; rintro e w6 ⟨rfl, rfl⟩)
            | (go_at_call 23; refine (err_ok _ _ _ _ _ HR5.out.rd).mono ?_; rintro e w6 ⟨rfl, rfl⟩))
          all_goals go_roundw
          case rel => exact ⟨k + 1, _, _, by omega, by go_num, rfl, rfl, HR5.out⟩
          case measure => simp [intOf]; omega
        all_goals
          go_wp2_with (first
            | (go_at_call 20; refine (HCL.out _ (HV.out.quiet ((Same.refl [] wr).alloc _)).rd).mono ?_; rintro e w5 ⟨rfl, hin, hs5⟩; have HR5 := Lib.hid (RInv.read (HV.out.quiet ((Same.refl [] wr).alloc _)) hin hs5 hp'); clear hin hs5)
            | (go_at_call 21; refine (at_ok _ _ _ _ _ HR5.out.rd).mono ?_; rintro e w6 ⟨rfl, rfl⟩)
            | (go_at_call 22; refine (left_ok _ _ _ _ _ HR5.out.rd (by omega) hp').mono ?_; rintro e w6 ⟨rfl, rfl⟩)
            | (go_at_call 23; refine (err_ok _ _ _ _ _ HR5.out.rd).mono ?_; rintro e w6 ⟨rfl, rfl⟩))
        all_goals
          go_roundw
          case rel => exact ⟨k + 1, _, _, by omega, by go_num, rfl, rfl, HR5.out⟩
          case measure => simp [intOf]; omega
    · obtain rfl : k = ops.length := by omega
      go_wp2_with (go_at_call 10; refine (awake_any _).mono ?_; rintro e w' ⟨rfl, hs⟩; have HS := Lib.hid hs; clear hs)
      go_ret
      exact ⟨rfl, HV.out.same.trans_nil HS.out⟩

theorem bitsReads_any (s : ByteArray) (hm : s.size ≤ maxLen) (v : Value) (ops : List OpD) {w : World} (h : OpsAt w v ops) :
    Calls Try.prog 4 #[.string s, v] w (AwakePost w) := by
  by_cases hs : 100 < s.size
  · exact bitsReads_long s v w hs hm
  · cases hf : fewB ops with
    | true => exact bitsReads_few s v ops w (by omega) h hf
    | false => exact bitsReads_many s v ops w (by omega) h hf

end Go.Proofs.Ytlaafjdlmocfnaa
