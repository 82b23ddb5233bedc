/- The chapter's example (awake). No condition. -/
import Derived.Test.YtpnbhgmcfooppaaDoorDn12
namespace Go.Proofs.YtpnbhgmcfooppaaDoor
open Go.RowKit
set_option linter.unusedSimpArgs false
set_option linter.unusedVariables false

theorem awake_feed4 (a b c d : UInt8) : feedG 17 newS 17 true 0 false ((⟨#[0]⟩ ++ (hdrS 2 ++ ⟨#[104, 105]⟩ ++ ⟨#[a, b, c, d]⟩)) ++ ⟨#[255, 255]⟩) =
      ⟨⟨⟨#[]⟩, false, some (0, (⟨#[0]⟩ ++ (hdrS 2 ++ ⟨#[104, 105]⟩ ++ ⟨#[a, b, c, d]⟩)) ++ ⟨#[255, 255]⟩), 0⟩, [hdrS 2 ++ ⟨#[104, 105]⟩ ++ ⟨#[a, b, c, d]⟩], 0⟩ := by kernel_rfl
theorem awake_feed (t : ByteArray) (ht : t.size = 4) :
    feedG 17 newS 17 true 0 false ((⟨#[0]⟩ ++ (hdrS 2 ++ ⟨#[104, 105]⟩ ++ t)) ++ ⟨#[255, 255]⟩) =
      ⟨⟨⟨#[]⟩, false, some (0, (⟨#[0]⟩ ++ (hdrS 2 ++ ⟨#[104, 105]⟩ ++ t)) ++ ⟨#[255, 255]⟩), 0⟩, [hdrS 2 ++ ⟨#[104, 105]⟩ ++ t], 0⟩ := by
  obtain ⟨⟨l⟩⟩ := t
  match l, ht with
  | [a, b, c, d], _ => exact awake_feed4 a b c d

theorem reads_some {w : World} {v : Value} {L : List ByteArray} (h : Reads w 1 v L.length (strVals L)) (h0 : L.length ≠ 0) :
    ∃ g o c, v = .slice (some ⟨g, o, none⟩) L.length c ∧ ∀ j (hj : j < L.length), w.cell? ⟨g, o + j, none⟩ = some (.string L[j]) := by
  rcases h.2 with ⟨a, c, rfl, hs, _, hc⟩ | ⟨_, h9⟩
  · obtain ⟨g, o, sp⟩ := a
    simp only at hs; subst hs
    refine ⟨g, o, c, rfl, fun j hj => ?_⟩
    have := hc j (.string L[j]) (by simp [strVals, hj])
    rwa [addr_add] at this
  · exact absurd h9 h0

def AwakePost (w : World) (e : Ending) (w' : World) : Prop := e = .returned (.bool true) ∧ Same [] w w'

set_option maxRecDepth 100000 in
set_option maxHeartbeats 2000000 in
theorem awake_any (w : World) : Calls Tryd.prog 8 #[] w (AwakePost w) := by
  go_enter Tryd.func8, Tryd.ntmps8
  go_wp2_with fail
  (with_reducible refine (jnew_ok 17 _ (by decide) (by decide)).mono ?_)
  rintro e w1 ⟨rfl, rfl⟩
  have hj : IsJS (w.alloc (.cells (jV 17 ⟨#[]⟩ false 0 ⟨#[]⟩ 0) 59)) w.heap.size 17 newS := heap_alloc_new w _
  have hs : Same [] w (w.alloc (.cells (jV 17 ⟨#[]⟩ false 0 ⟨#[]⟩ 0) 59)) := (Same.refl [] w).alloc _
  generalize w.alloc (.cells (jV 17 ⟨#[]⟩ false 0 ⟨#[]⟩ 0) 59) = w1 at *
  have HJ := Lib.hid hj; have HS := Lib.hid hs
  clear hj hs
  go_wp2_with fail
  (with_reducible refine (made_any ⟨#[104, 105]⟩ w1 (by decide)).mono ?_)
  rintro e w2 ⟨t, ht, he, s2⟩
  have hf := awake_feed t ht
  have hz : (hdrS 2 ++ ⟨#[104, 105]⟩ ++ t).size = 14 := by rw [ByteArray.size_append, ByteArray.size_append, ht]; rfl
  have he : e = .returned (.string (hdrS 2 ++ ⟨#[104, 105]⟩ ++ t)) := he
  have HF := Lib.hid hf
  generalize hdrS 2 ++ ⟨#[104, 105]⟩ ++ t = X at *
  subst he
  have J2 := Lib.hid (show IsJS w2 w.heap.size 17 newS from HJ.out.same s2 (by simp))
  have S2 := Lib.hid (HS.out.trans_nil s2)
  have hsa : ∀ a b : ByteArray, (a ++ b).size = a.size + b.size := fun a b => ByteArray.size_append
  have HFD := Lib.hid (fun W (hj : IsJS W w.heap.size 17 newS) => jfeed_any 17 true 0 false ((⟨#[0]⟩ ++ X) ++ ⟨#[255, 255]⟩) hj new_ok (by decide))
  clear ht hf s2 HJ HS
  go_wp2_with fail
  (with_reducible refine (HFD.out w2 J2.out).mono ?_)
  rintro e w3 ⟨v, he, ho, j3, s3⟩
  rw [HF.out] at he ho j3
  obtain ⟨g, o, k, rfl, hc⟩ := reads_some (Reads.of_own ho.1) (by simp)
  have hc0 := hc 0 (by simp)
  have he : e = .returned (.tuple #[.slice (some ⟨g, o, none⟩) 1 k, .int .i64 0]) := he
  have hc0 : w3.cell? ⟨g, o, none⟩ = some (.string X) := hc0
  subst he
  have J3 := Lib.hid j3
  have S3 := Lib.hid (((S2.out.mono (T := [w.heap.size]) (by simp)).trans s3 (fun x hx _ => hx)).mono (T := []) (fun x hx hlt => by simp at hx; omega))
  have hxx : (X.toList == X.toList) = true := by simp
  have HH := Lib.hid (held_any (show IsJ w3 w.heap.size 17 ⟨#[]⟩ false 0 ((⟨#[0]⟩ ++ X) ++ ⟨#[255, 255]⟩) 0 from j3))
  clear hc ho j3 s3 HFD HF hsa hz
  go_wp2_with fail
  (with_reducible refine HH.out.mono ?_)
  rintro e w4 ⟨rfl, rfl⟩
  go_wp2_with fail
  go_ret
  exact ⟨rfl, S3.out⟩

end Go.Proofs.YtpnbhgmcfooppaaDoor
