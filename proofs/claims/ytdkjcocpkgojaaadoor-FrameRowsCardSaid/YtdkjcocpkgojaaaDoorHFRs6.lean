/- Word, Short, and the chapter's examples. Condition: the reach of strings. -/
import Derived.Test.YtdkjcocpkgojaaaDoorHFRs5
namespace Go.Proofs.YtdkjcocpkgojaaaDoor
open Go.RowKit
set_option linter.unusedSimpArgs false
set_option linter.unusedVariables false

def parS (s : ByteArray) : ByteArray := bs (par (lb s))
theorem parS_size (s : ByteArray) : (parS s).size = 64 := by unfold parS; rw [size_bs, par_length]
def wordS (s : ByteArray) : ByteArray := s ++ parS s
theorem wordS_size (s : ByteArray) (h : s.size = 191) : (wordS s).size = 255 := by unfold wordS; rw [ByteArray.size_append, parS_size, h]
theorem lb_wordS (s : ByteArray) : lb (wordS s) = lb s ++ par (lb s) := by unfold wordS parS; rw [lb_append, lb_bs]
theorem wordS_isW (s : ByteArray) (h : s.size = 191) : IsW (lb (wordS s)) := by rw [lb_wordS]; exact word_is _ (by rw [lb_length, h])
theorem wordS_is (s : ByteArray) (h : s.size = 191) : isB (wordS s) = true := isB_true.2 (wordS_isW s h)

theorem enc_k (s : ByteArray) (w : World) (hs : s.size = 191) :
    Calls Tryd.prog 26 #[.string s] w (Ret (.tuple #[.string (parS s), .int .i64 0]) w) := enc_ok s w hs
theorem fullS_app (s : ByteArray) (n : Nat) (h : s.size ≤ n) : s ++ zerosS (n - s.size) = fullS s n := by
  unfold fullS fullL zerosS; rw [lb_length, if_neg (by omega), ← lb_inj, lb_append, lb_bs, lb_bs]
theorem par_zeros (n : Nat) : par (List.replicate n 0) = List.replicate 64 0 := by
  induction n with
  | zero => rfl
  | succ n ih =>
    rw [List.replicate_succ', par_snoc, ih]
    refine List.ext_getElem (by rw [nxt_length]; simp) fun i h1 h2 => ?_
    have hc : ∀ j, cf (List.replicate 64 0) j = 0 := fun j => by rw [cf_zeros]; rfl
    rw [List.getElem_replicate, ← cf_lt h1]
    unfold nxt
    rw [cf_ofF, hc, hc, xself, zero_gm, xself, ite_self]
theorem parS_zeros (n : Nat) : parS (zerosS n) = zerosS 64 := by unfold parS zerosS; rw [lb_bs, par_zeros]
theorem is_zeros : isB (zerosS 255) = true := isB_true.2 (by
  unfold zerosS; rw [lb_bs]; exact ⟨List.length_replicate, fun n _ => hv_zeros 255 (ex n)⟩)
def Zn (n : Nat) : Array Value := Array.replicate n (.int .u8 0)
theorem zn_list (n : Nat) : (Zn n).toList = u8l (List.replicate n 0) := by unfold Zn u8l; rw [Array.toList_replicate, List.map_replicate]; rfl
theorem conv_n {n : Nat} (hn : n < 1000) {W w2 : World} (hs : Same [] (W.alloc (.cells (Zn n) 5)) w2) : (convert 38 9 (.slice (some ⟨W.heap.size, 0, none⟩) n n)).run Tryd.prog w2 = .ok (.string (zerosS n)) w2 := by
  have h : (W.alloc (.cells (Zn n) 5)).ownsRow 0 5 1 (.slice (some ⟨W.heap.size, 0, none⟩) n n) n (Zn n).toList := row_new W (Zn n) 5 n (by simp [Zn]) (by unfold maxLen; omega)
  rw [zn_list] at h
  exact OwnB.str (B := 0) (l := List.replicate n 0) (by unfold OwnB; rw [List.length_replicate]; exact own_same h hs (fun _ _ => by simp))
end Go.Proofs.YtdkjcocpkgojaaaDoor
