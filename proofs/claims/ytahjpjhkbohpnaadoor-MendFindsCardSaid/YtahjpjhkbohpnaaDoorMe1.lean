/- Plain: what the loop of the locator keeps (Berlekamp's and Massey's, with erasures). No condition. -/
import Derived.Test.YtahjpjhkbohpnaaDoorRs1
namespace Go.Proofs.YtahjpjhkbohpnaaDoor

theorem mulL_local {a : List UInt8} {f g : Nat → UInt8} {n : Nat} (h : ∀ i, i ≤ n → f i = g i) : mulL a f n = mulL a g n := by
  rw [mulL_conv, mulL_conv]
  exact sx_congr fun i _ => by rw [h (n - i) (Nat.sub_le _ _)]
/-- A product's list, taken on a series. -/
theorem mulL_prod {f a c : List UInt8} (h : cf f = mulL a (cf c)) (S : Nat → UInt8) : mulL f S = mulL a (mulL c S) := by
  funext n
  obtain ⟨g, hg⟩ : ∃ g, g = ofF (n + 1) S := ⟨_, rfl⟩
  have hl : ∀ i, i ≤ n → S i = cf g i := fun i hi => by rw [hg, cf_ofF, if_pos (by omega)]
  rw [mulL_local hl, mulL_local (a := a) (fun i hi => mulL_local (a := c) (fun j hj => hl j (by omega)))]
  rw [mulL_comm f g, h, mulL_swap g a, mulL_comm g c]
theorem mulL_cf0 {a : List UInt8} {f : Nat → UInt8} : mulL a f 0 = gm (cf a 0) (f 0) := by
  rw [mulL_conv]; show 0 ^^^ gm (cf a 0) (f (0 - 0)) = _; rw [zerox]
def sclL (x : UInt8) (l : List UInt8) : List UInt8 := l.map fun a => gm a x
theorem cf_sclL (x : UInt8) (l : List UInt8) : cf (sclL x l) = scl x (cf l) := by
  funext i
  show _ = gm x (cf l i)
  by_cases h : i < l.length
  · rw [cf_lt (by unfold sclL; rw [List.length_map]; exact h), cf_lt h, gm_comm]
    unfold sclL; rw [List.getElem_map]
  · rw [cf_ge (by unfold sclL; rw [List.length_map]; omega), cf_ge (by omega), gm_zero]
theorem cf_nought (l : List UInt8) : cf (0 :: l) = sh (cf l) := by
  funext i
  cases i with
  | zero => rfl
  | succ i => rfl

/-- What the loop has: the polynomial that it found, the other one, and how long it is. -/
structure Bm where
  found : List UInt8
  other : List UInt8
  long : Nat
def gapB (S : Nat → UInt8) (r : Nat) (b : Bm) : UInt8 := mulL b.found S r
def stepB (p : Nat) (S : Nat → UInt8) (r : Nat) (b : Bm) : Bm :=
  if gapB S r b = 0 then ⟨b.found, 0 :: b.other, b.long⟩
  else if 2 * b.long ≤ r + p then ⟨trimL (addL b.found (0 :: sclL (gapB S r b) b.other)), sclL (inv (gapB S r b)) b.found, r + 1 + p - b.long⟩
  else ⟨trimL (addL b.found (0 :: sclL (gapB S r b) b.other)), 0 :: b.other, b.long⟩
def runB (p : Nat) (S : Nat → UInt8) : Nat → Nat → Bm → Bm
  | _, 0, b => b
  | r, n + 1, b => runB p S (r + 1) n (stepB p S r b)
/-- What it keeps: T is the series times what is known. -/
structure KeptB (p : Nat) (G : List UInt8) (T : Nat → UInt8) (r : Nat) (b : Bm) (c d : List UInt8) : Prop where
  f : cf b.found = mulL G (cf c)
  o : cf b.other = mulL G (cf d)
  one : cf c 0 = 1
  dc : ∀ j, b.long < j + p → cf c j = 0
  dd : ∀ j, r < j + b.long → cf d j = 0
  low : p ≤ b.long
  lr : b.long ≤ r
  zf : ∀ j, b.long ≤ j → j < r → mulL c T j = 0
  zo : ∀ j, r + p + 1 ≤ j + b.long → j < r → sh (mulL d T) j = 0
  top : b.long = p ∨ sh (mulL d T) r = 1

theorem add_scl {c d : List UInt8} (g : UInt8) : cf (addL c (0 :: sclL g d)) = pad (cf c) (scl g (sh (cf d))) := by
  rw [cf_addL, cf_nought, cf_sclL]
  congr 1
  funext i
  cases i with
  | zero => show (0 : UInt8) = gm g 0; rw [gm_zero]
  | succ i => rfl
theorem mulL_upd {c d : List UInt8} (g : UInt8) (T : Nat → UInt8) (j : Nat) : mulL (addL c (0 :: sclL g d)) T j = mulL c T j ^^^ gm g (sh (mulL d T) j) := by
  have h : ∀ l : List UInt8, ∀ i, i ≤ j → T i = cf (ofF (j + 1) T) i := fun l i hi => by rw [cf_ofF, if_pos (by omega)]
  obtain ⟨t, ht⟩ : ∃ t, t = ofF (j + 1) T := ⟨_, rfl⟩
  have hl : ∀ i, i ≤ j → T i = cf t i := fun i hi => by rw [ht, cf_ofF, if_pos (by omega)]
  have hd : sh (mulL d T) j = sh (mulL d (cf t)) j := by
    cases j with
    | zero => rfl
    | succ j => exact mulL_local fun i hi => hl i (by omega)
  rw [mulL_local hl, mulL_comm, add_scl, mulL_pad, mulL_scl, mulL_sh, mulL_local (a := c) hl, hd, mulL_comm t c, mulL_comm t d]
  rfl
end Go.Proofs.YtahjpjhkbohpnaaDoor
