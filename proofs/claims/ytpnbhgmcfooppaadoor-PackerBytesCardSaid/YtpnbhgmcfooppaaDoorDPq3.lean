/- What is wrong with a section that is to be packed (Check), in the program and in the reference. Condition: fewer than 2^40 bytes. -/
import Derived.Test.YtpnbhgmcfooppaaDoorDPq2
import Derived.Test.YtpnbhgmcfooppaaDoorDBd5
namespace Go.Proofs.YtpnbhgmcfooppaaDoor
open Go.RowKit
set_option linter.unusedSimpArgs false
set_option linter.unusedVariables false

def chkS (s : ByteArray) : Int :=
  if s.size < 3 then 10 else match needG s with
    | none => 12
    | some n => if s.size < n then 10 else if n < s.size then 11 else if byteOf s 0 = 255 then 12 else 0
theorem good_chk {s : ByteArray} (h : Good s) : chkS s = 0 := by
  have := h.size
  unfold chkS
  rw [if_neg (by omega), h.2]
  simp only
  rw [if_neg (by omega), if_neg (by omega), if_neg h.1]
theorem chk_good {s : ByteArray} (h : chkS s = 0) : Good s := by
  unfold chkS at h
  split at h
  · cases h
  · split at h
    · cases h
    · rename_i n hn
      split at h
      · cases h
      · split at h
        · cases h
        · split at h
          · cases h
          · rename_i h1 h2 h3
            exact ⟨h3, by rw [hn]; congr 1; omega⟩

def Need0 (w : World) (e : Ending) (w' : World) : Prop := e = .returned (.tuple #[.int .i64 0, .int .i64 10]) ∧ w = w'
theorem sneed_short (s : ByteArray) (w : World) (h : s.size < 3) : Calls Tryd.prog 41 #[.string s] w (Need0 w) := by
  have hj3 : (s.size : Int) < 3 := by omega
  go_enter Tryd.func41, Tryd.ntmps41
  go_wp2
  go_ret2
  exact ⟨rfl, rfl⟩
theorem first_is (s : ByteArray) (h : 0 < s.size) : s.extract 0 1 = ⟨#[UInt8.ofNat (byteOf s 0)]⟩ := by
  apply ByteArray.ext_getElem
  · rw [ByteArray.size_extract]; show min 1 s.size - 0 = 1; omega
  · intro i h1 h2
    have hi : i = 0 := by rw [ByteArray.size_extract] at h1; omega
    subst hi
    rw [ByteArray.getElem_extract]
    have := byteOf_at s 0 h
    show s[0 + 0] = UInt8.ofNat (byteOf s 0)
    rw [← this]; simp
theorem need_none {w w' : World} {s : ByteArray} {e : Ending} (h : NeedPost w s e w') (hn : needG s = none) : e = .returned (.tuple #[.int .i64 0, .int .i64 12]) ∧ Same [] w w' := by
  rcases h with ⟨⟨n, h1, _⟩ | ⟨_, h2⟩, h3⟩
  · rw [hn] at h1; cases h1
  · exact ⟨h2, h3⟩
theorem need_some {w w' : World} {s : ByteArray} {e : Ending} {n : Nat} (h : NeedPost w s e w') (hn : needG s = some n) : e = .returned (.tuple #[.int .i64 n, .int .i64 0]) ∧ Same [] w w' := by
  rcases h with ⟨⟨m, h1, h2⟩ | ⟨h1, _⟩, h3⟩
  · rw [hn] at h1; cases h1; exact ⟨h2, h3⟩
  · rw [hn] at h1; cases h1

set_option maxHeartbeats 1000000 in
theorem pkcheck_any (s : ByteArray) (w : World) (hs : s.size < 1099511627776) : Calls Tryd.prog 38 #[.string s] w (NumPost w (chkS s)) := by
  unfold chkS
  by_cases h3 : s.size < 3
  · rw [if_pos h3]
    have HN := Lib.hid (fun W => sneed_short s W h3)
    clear h3
    go_enter Tryd.func38, Tryd.ntmps38
    go_wp2_with fail
    (with_reducible refine (HN.out _).mono ?_)
    rintro e w1 ⟨rfl, rfl⟩
    go_wp2_with fail
    go_ret
    exact ⟨rfl, Same.refl _ _⟩
  · rw [if_neg h3]
    cases hn : needG s with
    | none =>
      have HN := Lib.hid (fun W => (sneed_any s W (by omega) hs).mono fun e w' h => need_none h hn)
      clear hn
      go_enter Tryd.func38, Tryd.ntmps38
      go_wp2_with fail
      (with_reducible refine (HN.out _).mono ?_)
      rintro e w1 ⟨rfl, s1⟩
      go_wp2_with fail
      go_ret
      exact ⟨rfl, s1⟩
    | some n =>
      have HN := Lib.hid (fun W => (sneed_any s W (by omega) hs).mono fun e w' h => need_some h hn)
      have hn12 := need_ge hn
      have hx := first_is s (by omega)
      have hcs : ((s.size : Int) < (n : Int) ∧ s.size < n) ∨ (¬ (s.size : Int) < (n : Int) ∧ ¬ s.size < n ∧ (n : Int) < (s.size : Int) ∧ n < s.size) ∨ (¬ (s.size : Int) < (n : Int) ∧ ¬ s.size < n ∧ ¬ (n : Int) < (s.size : Int) ∧ ¬ n < s.size) := by omega
      clear hn
      rcases hcs with ⟨g1, g2⟩ | ⟨g1, g2, g3, g4⟩ | ⟨g1, g2, g3, g4⟩
      · simp only; rw [if_pos g2]
        clear g2
        go_enter Tryd.func38, Tryd.ntmps38
        go_wp2_with fail
        (with_reducible refine (HN.out _).mono ?_)
        rintro e w1 ⟨rfl, s1⟩
        go_wp2_with fail
        go_ret
        exact ⟨rfl, s1⟩
      · simp only; rw [if_neg g2, if_pos g4]
        clear g2 g4
        go_enter Tryd.func38, Tryd.ntmps38
        go_wp2_with fail
        (with_reducible refine (HN.out _).mono ?_)
        rintro e w1 ⟨rfl, s1⟩
        go_wp2_with fail
        go_ret
        exact ⟨rfl, s1⟩
      · simp only; rw [if_neg g2, if_neg g4]
        clear g2 g4
        have hs1 : (1 : Int) ≤ (s.size : Int) := by omega
        by_cases h255 : byteOf s 0 = 255
        · rw [if_pos h255]
          rw [h255] at hx
          go_enter Tryd.func38, Tryd.ntmps38
          go_wp2_with fail
          (with_reducible refine (HN.out _).mono ?_)
          rintro e w1 ⟨rfl, s1⟩
          have S1 := Lib.hid s1
          clear s1
          go_wp2_with fail
          go_ret
          exact ⟨rfl, S1.out⟩
        · rw [if_neg h255]
          have hq : (UInt8.ofNat (byteOf s 0) == 255) = false := by
            rw [beq_eq_false_iff_ne]
            intro he
            have h9 := congrArg UInt8.toNat he
            have h8 := byteOf_lt s 0
            simp at h9
            omega
          go_enter Tryd.func38, Tryd.ntmps38
          go_wp2_with fail
          (with_reducible refine (HN.out _).mono ?_)
          rintro e w1 ⟨rfl, s1⟩
          have S1 := Lib.hid s1
          clear s1
          go_wp2_with fail
          go_ret
          exact ⟨rfl, S1.out⟩

end Go.Proofs.YtpnbhgmcfooppaaDoor
