/- Bytes as the numbers of a field: sums are xor, products are by shift and reduction. Plain; no program in sight. Polynomials over bytes: coefficients, sums, products, trimming, degrees. Plain; no program in sight. -/
import Derived.WalkKit
namespace Go.Proofs.YtpkpfebhdgbgbaaGreatDoor
set_option linter.unusedSimpArgs false
set_option linter.unusedVariables false

/-! ## On numbers below 256 -/
def x2N (a : Nat) : Nat := (2 * a) ^^^ (285 * (a / 128))
def bitN (b i : Nat) : Nat := b / 2 ^ i % 2
def gmN (a b : Nat) : Nat :=
  let a1 := x2N a; let a2 := x2N a1; let a3 := x2N a2; let a4 := x2N a3; let a5 := x2N a4; let a6 := x2N a5; let a7 := x2N a6
  (a * bitN b 0) ^^^ (a1 * bitN b 1) ^^^ (a2 * bitN b 2) ^^^ (a3 * bitN b 3) ^^^ (a4 * bitN b 4) ^^^ (a5 * bitN b 5) ^^^ (a6 * bitN b 6) ^^^ (a7 * bitN b 7)

theorem xac (a b c d : Nat) : (a ^^^ b) ^^^ (c ^^^ d) = (a ^^^ c) ^^^ (b ^^^ d) := by
  rw [Nat.xor_assoc, Nat.xor_assoc, ← Nat.xor_assoc b c d, Nat.xor_comm b c, Nat.xor_assoc]
theorem xac8 (p0 p1 p2 p3 p4 p5 p6 p7 q0 q1 q2 q3 q4 q5 q6 q7 : Nat) :
    (p0 ^^^ q0) ^^^ (p1 ^^^ q1) ^^^ (p2 ^^^ q2) ^^^ (p3 ^^^ q3) ^^^ (p4 ^^^ q4) ^^^ (p5 ^^^ q5) ^^^ (p6 ^^^ q6) ^^^ (p7 ^^^ q7) = (p0 ^^^ p1 ^^^ p2 ^^^ p3 ^^^ p4 ^^^ p5 ^^^ p6 ^^^ p7) ^^^ (q0 ^^^ q1 ^^^ q2 ^^^ q3 ^^^ q4 ^^^ q5 ^^^ q6 ^^^ q7) := by
  rw [xac p0 q0, xac _ _ p2 q2, xac _ _ p3 q3, xac _ _ p4 q4, xac _ _ p5 q5, xac _ _ p6 q6, xac _ _ p7 q7]
theorem two_xor (a b : Nat) : 2 * (a ^^^ b) = (2 * a) ^^^ (2 * b) := by
  have := Nat.shiftLeft_xor_distrib (a := a) (b := b) (i := 1)
  simpa [Nat.shiftLeft_eq, Nat.mul_comm] using this
theorem bitN_lt (b i : Nat) : bitN b i < 2 := Nat.mod_lt _ (by decide)
theorem bitN_xor (a b i : Nat) : bitN (a ^^^ b) i = bitN a i ^^^ bitN b i := by
  have h : ∀ x : Nat, bitN x i = (x.testBit i).toNat := fun x => by rw [Nat.toNat_testBit]; rfl
  rw [h, h, h, Nat.testBit_xor]
  cases a.testBit i <;> cases b.testBit i <;> rfl
theorem mul_bit (c p q : Nat) (hp : p < 2) (hq : q < 2) : c * (p ^^^ q) = (c * p) ^^^ (c * q) := by
  obtain rfl | rfl : p = 0 ∨ p = 1 := by omega
  · simp
  · obtain rfl | rfl : q = 0 ∨ q = 1 := by omega
    · simp
    · simp
theorem bit_mul (c d p : Nat) (hp : p < 2) : (c ^^^ d) * p = (c * p) ^^^ (d * p) := by
  obtain rfl | rfl : p = 0 ∨ p = 1 := by omega
  · simp
  · simp
theorem div128 (a : Nat) (h : a < 256) : a / 128 = bitN a 7 := by
  unfold bitN; simp only [show (2 : Nat) ^ 7 = 128 from rfl]; omega
theorem xlt (a b : Nat) (ha : a < 256) (hb : b < 256) : a ^^^ b < 256 := Nat.xor_lt_two_pow (n := 8) ha hb
theorem x2N_lt (a : Nat) (h : a < 256) : x2N a < 256 := by
  have : ∀ a : Fin 256, x2N a.1 < 256 := by decide +kernel
  exact this ⟨a, h⟩
theorem x2N_xor (a b : Nat) (ha : a < 256) (hb : b < 256) : x2N (a ^^^ b) = x2N a ^^^ x2N b := by
  unfold x2N
  rw [div128 _ (xlt _ _ ha hb), div128 _ ha, div128 _ hb, two_xor, bitN_xor, mul_bit _ _ _ (bitN_lt _ _) (bitN_lt _ _), xac]
theorem times_bit_lt (a b i : Nat) (h : a < 256) : a * bitN b i < 256 := by
  have := bitN_lt b i
  obtain h1 | h1 : bitN b i = 0 ∨ bitN b i = 1 := by omega
  all_goals (rw [h1]; omega)
theorem gmN_lt (a b : Nat) (ha : a < 256) : gmN a b < 256 := by
  have h1 := x2N_lt a ha
  have h2 := x2N_lt _ h1
  have h3 := x2N_lt _ h2
  have h4 := x2N_lt _ h3
  have h5 := x2N_lt _ h4
  have h6 := x2N_lt _ h5
  have h7 := x2N_lt _ h6
  unfold gmN
  exact xlt _ _ (xlt _ _ (xlt _ _ (xlt _ _ (xlt _ _ (xlt _ _ (xlt _ _ (times_bit_lt _ _ _ ha) (times_bit_lt _ _ _ h1)) (times_bit_lt _ _ _ h2)) (times_bit_lt _ _ _ h3)) (times_bit_lt _ _ _ h4)) (times_bit_lt _ _ _ h5)) (times_bit_lt _ _ _ h6)) (times_bit_lt _ _ _ h7)
theorem gmN_add (a b c : Nat) : gmN a (b ^^^ c) = gmN a b ^^^ gmN a c := by
  unfold gmN
  simp only [bitN_xor, mul_bit _ _ _ (bitN_lt _ _) (bitN_lt _ _)]
  exact xac8 _ _ _ _ _ _ _ _ _ _ _ _ _ _ _ _
theorem add_gmN (a b c : Nat) (ha : a < 256) (hb : b < 256) : gmN (a ^^^ b) c = gmN a c ^^^ gmN b c := by
  have h1 := x2N_xor a b ha hb
  have h2 := x2N_xor _ _ (x2N_lt a ha) (x2N_lt b hb)
  have h3 := x2N_xor _ _ (x2N_lt _ (x2N_lt a ha)) (x2N_lt _ (x2N_lt b hb))
  have h4 := x2N_xor _ _ (x2N_lt _ (x2N_lt _ (x2N_lt a ha))) (x2N_lt _ (x2N_lt _ (x2N_lt b hb)))
  have h5 := x2N_xor _ _ (x2N_lt _ (x2N_lt _ (x2N_lt _ (x2N_lt a ha)))) (x2N_lt _ (x2N_lt _ (x2N_lt _ (x2N_lt b hb))))
  have h6 := x2N_xor _ _ (x2N_lt _ (x2N_lt _ (x2N_lt _ (x2N_lt _ (x2N_lt a ha))))) (x2N_lt _ (x2N_lt _ (x2N_lt _ (x2N_lt _ (x2N_lt b hb)))))
  have h7 := x2N_xor _ _ (x2N_lt _ (x2N_lt _ (x2N_lt _ (x2N_lt _ (x2N_lt _ (x2N_lt a ha)))))) (x2N_lt _ (x2N_lt _ (x2N_lt _ (x2N_lt _ (x2N_lt _ (x2N_lt b hb))))))
  unfold gmN
  simp only [h1, h2, h3, h4, h5, h6, h7, bit_mul _ _ _ (bitN_lt _ _)]
  exact xac8 _ _ _ _ _ _ _ _ _ _ _ _ _ _ _ _

/-- Two maps that are spread over sums and are the same at the powers of 2 below 256 are the same below 256. -/
theorem byte_bits (b : Nat) (h : b < 256) : b = (1 * bitN b 0) ^^^ (2 * bitN b 1) ^^^ (4 * bitN b 2) ^^^ (8 * bitN b 3) ^^^ (16 * bitN b 4) ^^^ (32 * bitN b 5) ^^^ (64 * bitN b 6) ^^^ (128 * bitN b 7) := by
  have : ∀ b : Fin 256, b.1 = (1 * bitN b 0) ^^^ (2 * bitN b 1) ^^^ (4 * bitN b 2) ^^^ (8 * bitN b 3) ^^^ (16 * bitN b 4) ^^^ (32 * bitN b 5) ^^^ (64 * bitN b 6) ^^^ (128 * bitN b 7) := by decide +kernel
  exact this ⟨b, h⟩
theorem add_ext (f g : Nat → Nat) (hf : ∀ x y, x < 256 → y < 256 → f (x ^^^ y) = f x ^^^ f y) (hg : ∀ x y, x < 256 → y < 256 → g (x ^^^ y) = g x ^^^ g y)
    (h : f 1 = g 1 ∧ f 2 = g 2 ∧ f 4 = g 4 ∧ f 8 = g 8 ∧ f 16 = g 16 ∧ f 32 = g 32 ∧ f 64 = g 64 ∧ f 128 = g 128) (b : Nat) (hb : b < 256) : f b = g b := by
  have f0 : f 0 = 0 := by have := hf 0 0 (by decide) (by decide); simpa using this
  have g0 : g 0 = 0 := by have := hg 0 0 (by decide) (by decide); simpa using this
  have one : ∀ c i, c < 256 → f c = g c → f (c * bitN b i) = g (c * bitN b i) ∧ c * bitN b i < 256 := by
    intro c i hc he
    have := bitN_lt b i
    obtain h1 | h1 : bitN b i = 0 ∨ bitN b i = 1 := by omega
    · rw [h1]; simp [f0, g0]
    · rw [h1]; simp [he, hc]
  obtain ⟨h0, h1, h2, h3, h4, h5, h6, h7⟩ := h
  obtain ⟨k0, l0⟩ := one 1 0 (by decide) h0
  obtain ⟨k1, l1⟩ := one 2 1 (by decide) h1
  obtain ⟨k2, l2⟩ := one 4 2 (by decide) h2
  obtain ⟨k3, l3⟩ := one 8 3 (by decide) h3
  obtain ⟨k4, l4⟩ := one 16 4 (by decide) h4
  obtain ⟨k5, l5⟩ := one 32 5 (by decide) h5
  obtain ⟨k6, l6⟩ := one 64 6 (by decide) h6
  obtain ⟨k7, l7⟩ := one 128 7 (by decide) h7
  have m1 := xlt _ _ l0 l1
  have m2 := xlt _ _ m1 l2
  have m3 := xlt _ _ m2 l3
  have m4 := xlt _ _ m3 l4
  have m5 := xlt _ _ m4 l5
  have m6 := xlt _ _ m5 l6
  rw [byte_bits b hb, hf _ _ m6 l7, hf _ _ m5 l6, hf _ _ m4 l5, hf _ _ m3 l4, hf _ _ m2 l3, hf _ _ m1 l2, hf _ _ l0 l1,
    hg _ _ m6 l7, hg _ _ m5 l6, hg _ _ m4 l5, hg _ _ m3 l4, hg _ _ m2 l3, hg _ _ m1 l2, hg _ _ l0 l1, k0, k1, k2, k3, k4, k5, k6, k7]

theorem all8 {p : Nat → Prop} (h : p 1 ∧ p 2 ∧ p 4 ∧ p 8 ∧ p 16 ∧ p 32 ∧ p 64 ∧ p 128) : p 1 ∧ p 2 ∧ p 4 ∧ p 8 ∧ p 16 ∧ p 32 ∧ p 64 ∧ p 128 := h
theorem gmN_comm (a b : Nat) (ha : a < 256) (hb : b < 256) : gmN a b = gmN b a := by
  refine add_ext (fun x => gmN x b) (fun x => gmN b x) (fun x y hx hy => add_gmN _ _ _ hx hy) (fun x y _ _ => gmN_add _ _ _) ?_ a ha
  have one : ∀ c, c < 256 → (gmN c 1 = gmN 1 c ∧ gmN c 2 = gmN 2 c ∧ gmN c 4 = gmN 4 c ∧ gmN c 8 = gmN 8 c ∧ gmN c 16 = gmN 16 c ∧ gmN c 32 = gmN 32 c ∧ gmN c 64 = gmN 64 c ∧ gmN c 128 = gmN 128 c) → gmN c b = gmN b c :=
    fun c hc h => add_ext (fun x => gmN c x) (fun x => gmN x c) (fun x y _ _ => gmN_add _ _ _) (fun x y hx hy => add_gmN _ _ _ hx hy) h b hb
  exact ⟨one 1 (by decide) (by decide +kernel), one 2 (by decide) (by decide +kernel), one 4 (by decide) (by decide +kernel), one 8 (by decide) (by decide +kernel),
    one 16 (by decide) (by decide +kernel), one 32 (by decide) (by decide +kernel), one 64 (by decide) (by decide +kernel), one 128 (by decide) (by decide +kernel)⟩
theorem gmN_assoc (a b c : Nat) (ha : a < 256) (hb : b < 256) (hc : c < 256) : gmN (gmN a b) c = gmN a (gmN b c) := by
  refine add_ext (fun x => gmN (gmN a b) x) (fun x => gmN a (gmN b x)) (fun x y _ _ => gmN_add _ _ _) (fun x y _ _ => by simp only [gmN_add]) ?_ c hc
  have two : ∀ c, c < 256 → (∀ b, b ∈ [1, 2, 4, 8, 16, 32, 64, 128] → ∀ a, a ∈ [1, 2, 4, 8, 16, 32, 64, 128] → gmN (gmN a b) c = gmN a (gmN b c)) → gmN (gmN a b) c = gmN a (gmN b c) := by
    intro c hc h
    refine add_ext (fun x => gmN (gmN a x) c) (fun x => gmN a (gmN x c)) (fun x y _ _ => ?_) (fun x y hx hy => ?_) ?_ b hb
    · show gmN (gmN a (x ^^^ y)) c = _
      rw [gmN_add, add_gmN _ _ _ (gmN_lt _ _ ha) (gmN_lt _ _ ha)]
    · show gmN a (gmN (x ^^^ y) c) = _
      rw [add_gmN _ _ _ hx hy, gmN_add]
    have one : ∀ b, b < 256 → b ∈ [1, 2, 4, 8, 16, 32, 64, 128] → gmN (gmN a b) c = gmN a (gmN b c) := by
      intro b hb hm
      refine add_ext (fun x => gmN (gmN x b) c) (fun x => gmN x (gmN b c)) (fun x y hx hy => ?_) (fun x y hx hy => add_gmN _ _ _ hx hy) ?_ a ha
      · show gmN (gmN (x ^^^ y) b) c = _
        rw [add_gmN _ _ _ hx hy, add_gmN _ _ _ (gmN_lt _ _ hx) (gmN_lt _ _ hy)]
      · exact ⟨h b hm _ (by decide), h b hm _ (by decide), h b hm _ (by decide), h b hm _ (by decide), h b hm _ (by decide), h b hm _ (by decide), h b hm _ (by decide), h b hm _ (by decide)⟩
    exact ⟨one _ (by decide) (by decide), one _ (by decide) (by decide), one _ (by decide) (by decide), one _ (by decide) (by decide), one _ (by decide) (by decide), one _ (by decide) (by decide), one _ (by decide) (by decide), one _ (by decide) (by decide)⟩
  exact ⟨two 1 (by decide) (by decide +kernel), two 2 (by decide) (by decide +kernel), two 4 (by decide) (by decide +kernel), two 8 (by decide) (by decide +kernel),
    two 16 (by decide) (by decide +kernel), two 32 (by decide) (by decide +kernel), two 64 (by decide) (by decide +kernel), two 128 (by decide) (by decide +kernel)⟩

/-! ## On bytes -/
def gm (a b : UInt8) : UInt8 := UInt8.ofNat (gmN a.toNat b.toNat)
theorem toNat_gm (a b : UInt8) : (gm a b).toNat = gmN a.toNat b.toNat := by
  unfold gm; rw [UInt8.toNat_ofNat']; exact Nat.mod_eq_of_lt (gmN_lt _ _ a.toNat_lt)
theorem toNat_xor (a b : UInt8) : (a ^^^ b).toNat = a.toNat ^^^ b.toNat := UInt8.toNat_xor a b
theorem gm_comm (a b : UInt8) : gm a b = gm b a := UInt8.toNat_inj.1 (by rw [toNat_gm, toNat_gm]; exact gmN_comm _ _ a.toNat_lt b.toNat_lt)
theorem gm_assoc (a b c : UInt8) : gm (gm a b) c = gm a (gm b c) := UInt8.toNat_inj.1 (by simp only [toNat_gm]; exact gmN_assoc _ _ _ a.toNat_lt b.toNat_lt c.toNat_lt)
theorem gm_xor (a b c : UInt8) : gm a (b ^^^ c) = gm a b ^^^ gm a c := UInt8.toNat_inj.1 (by simp only [toNat_gm, toNat_xor]; exact gmN_add _ _ _)
theorem xor_gm (a b c : UInt8) : gm (a ^^^ b) c = gm a c ^^^ gm b c := by rw [gm_comm, gm_xor, gm_comm c a, gm_comm c b]
theorem gm_left_comm (a b c : UInt8) : gm a (gm b c) = gm b (gm a c) := by rw [← gm_assoc, gm_comm a b, gm_assoc]
theorem gm_zero (a : UInt8) : gm a 0 = 0 := by
  have h := gm_xor a 0 0
  simpa using h
theorem zero_gm (a : UInt8) : gm 0 a = 0 := by rw [gm_comm, gm_zero]
theorem all_bytes {p : UInt8 → Prop} [DecidablePred p] (h : ∀ n : Fin 256, p (UInt8.ofNat n.1)) (a : UInt8) : p a := by
  have := h ⟨a.toNat, a.toNat_lt⟩
  simpa using this
theorem gm_one (a : UInt8) : gm a 1 = a := all_bytes (p := fun a => gm a 1 = a) (by decide +kernel) a
theorem one_gm (a : UInt8) : gm 1 a = a := by rw [gm_comm, gm_one]
theorem xself (a : UInt8) : a ^^^ a = 0 := UInt8.xor_self
theorem xcomm (a b : UInt8) : a ^^^ b = b ^^^ a := UInt8.xor_comm a b
theorem xassoc (a b c : UInt8) : a ^^^ b ^^^ c = a ^^^ (b ^^^ c) := UInt8.xor_assoc a b c
theorem xleft (a b c : UInt8) : a ^^^ (b ^^^ c) = b ^^^ (a ^^^ c) := by rw [← xassoc, xcomm a b, xassoc]
theorem xzero (a : UInt8) : a ^^^ 0 = a := UInt8.xor_zero
theorem zerox (a : UInt8) : 0 ^^^ a = a := UInt8.zero_xor
theorem xcancel (a b : UInt8) : a ^^^ (a ^^^ b) = b := by rw [← xassoc, xself, zerox]
theorem xeq_zero {a b : UInt8} : a ^^^ b = 0 ↔ a = b := by
  constructor
  · intro h
    have := congrArg (a ^^^ ·) h
    simp only [xcancel, xzero] at this
    exact this.symm
  · rintro rfl; exact xself _

/-- 2 to a power. -/
def ex : Nat → UInt8 | 0 => 1 | n + 1 => gm 2 (ex n)
theorem ex_add (m n : Nat) : ex (m + n) = gm (ex m) (ex n) := by
  induction m with
  | zero => rw [Nat.zero_add]; exact (one_gm _).symm
  | succ m ih => rw [Nat.succ_add]; show gm 2 (ex (m + n)) = gm (gm 2 (ex m)) (ex n); rw [ih, gm_assoc]
theorem ex_255 : ex 255 = 1 := by decide +kernel
theorem ex_mod (n : Nat) : ex (n % 255) = ex n := by
  have h : ∀ k, ex (255 * k) = 1 := fun k => by
    induction k with
    | zero => rfl
    | succ k ih => rw [Nat.mul_succ, ex_add, ih, ex_255, gm_one]
  conv => rhs; rw [← Nat.div_add_mod n 255, ex_add, h, one_gm]

/-- The powers of 2, from one on. -/
def exL : Nat → UInt8 → List UInt8 | 0, _ => [] | n + 1, a => a :: exL n (gm 2 a)
theorem exL_length (n : Nat) (a : UInt8) : (exL n a).length = n := by
  induction n generalizing a with
  | zero => rfl
  | succ n ih => simp [exL, ih]
theorem exL_get (n : Nat) (a : UInt8) (i : Nat) (h : i < n) : (exL n a)[i]? = some (gm (ex i) a) := by
  induction n generalizing a i with
  | zero => omega
  | succ n ih =>
    cases i with
    | zero => simp [exL, ex, one_gm]
    | succ i =>
      simp only [exL, List.getElem?_cons_succ]
      rw [ih _ _ (by omega)]
      show some (gm (ex i) (gm 2 a)) = some (gm (gm 2 (ex i)) a)
      rw [gm_left_comm, gm_assoc]
/-- How many times 2 is by itself in a byte. -/
def lg (a : UInt8) : Nat := (exL 255 1).idxOf a
def lgCheck : Bool := (List.range 255).all fun n => let a := UInt8.ofNat (n + 1); let k := lg a; decide (k < 255) && decide ((exL 255 1)[k]? = some a)
theorem lg_check : lgCheck = true := by decide +kernel
theorem lg_ex {a : UInt8} (h : a ≠ 0) : lg a < 255 ∧ ex (lg a) = a := by
  have h1 := lg_check
  unfold lgCheck at h1
  rw [List.all_eq_true] at h1
  have hp : 0 < a.toNat := Nat.pos_of_ne_zero (fun e => h (UInt8.toNat_inj.1 e))
  have h2 := h1 (a.toNat - 1) (List.mem_range.2 (by have := a.toNat_lt; omega))
  have h3 : UInt8.ofNat (a.toNat - 1 + 1) = a := by rw [Nat.sub_add_cancel hp]; simp
  simp only [h3, Bool.and_eq_true, decide_eq_true_eq] at h2
  refine ⟨h2.1, ?_⟩
  have := exL_get 255 1 (lg a) h2.1
  rw [h2.2, gm_one] at this
  exact (Option.some.inj this).symm
theorem ex_ne (n : Nat) : ex n ≠ 0 := by
  have h : ∀ k, k < 255 → ex k ≠ 0 := fun k hk he => by
    have h2 := ex_255
    rw [show 255 = k + (255 - k) by omega, ex_add, he, zero_gm] at h2
    exact absurd h2 (by decide)
  rw [← ex_mod]
  exact h _ (Nat.mod_lt _ (by decide))
def exInj : Bool := (exL 255 1).Nodup
theorem ex_inj {m n : Nat} (hm : m < 255) (hn : n < 255) (h : ex m = ex n) : m = n := by
  have hd : (exL 255 1).Nodup := by decide +kernel
  have h1 := exL_get 255 1 m hm
  have h2 := exL_get 255 1 n hn
  rw [gm_one] at h1 h2
  have l : (exL 255 1).length = 255 := exL_length _ _
  have h3 : (exL 255 1)[m]? = (exL 255 1)[n]? := by rw [h1, h2, h]
  exact (List.getElem?_inj (by omega) hd).1 h3
theorem lg_of_ex (n : Nat) (h : n < 255) : lg (ex n) = n := by
  obtain ⟨h1, h2⟩ := lg_ex (ex_ne n)
  exact ex_inj h1 h h2
/-- The byte by which the product is 1 (0 of 0). -/
def inv (a : UInt8) : UInt8 := if a = 0 then 0 else ex (255 - lg a)
theorem gm_inv {a : UInt8} (h : a ≠ 0) : gm a (inv a) = 1 := by
  obtain ⟨h1, h2⟩ := lg_ex h
  unfold inv
  rw [if_neg h]
  have h3 : gm (ex (lg a)) (ex (255 - lg a)) = 1 := by rw [← ex_add, Nat.add_sub_cancel' (by omega), ex_255]
  rwa [h2] at h3
theorem gm_eq_zero {a b : UInt8} : gm a b = 0 ↔ a = 0 ∨ b = 0 := by
  constructor
  · intro h
    by_cases ha : a = 0
    · exact .inl ha
    · right
      have := congrArg (gm (inv a)) h
      rw [← gm_assoc, gm_comm (inv a) a, gm_inv ha, one_gm, gm_zero] at this
      exact this
  · rintro (rfl | rfl)
    · exact zero_gm _
    · exact gm_zero _
theorem inv_ne {a : UInt8} (h : a ≠ 0) : inv a ≠ 0 := fun e => by
  have := gm_inv h
  rw [e, gm_zero] at this
  exact absurd this (by decide)
theorem gm_cancel {a b c : UInt8} (h : a ≠ 0) (he : gm a b = gm a c) : b = c := by
  have := congrArg (gm (inv a)) he
  rwa [← gm_assoc, ← gm_assoc, gm_comm (inv a) a, gm_inv h, one_gm, one_gm] at this
theorem gm_tab (a b : UInt8) (ha : a ≠ 0) (hb : b ≠ 0) : ex (lg a + lg b) = gm a b := by rw [ex_add, (lg_ex ha).2, (lg_ex hb).2]

end Go.Proofs.YtpkpfebhdgbgbaaGreatDoor
namespace Go.Proofs.YtpkpfebhdgbgbaaGreatDoor
set_option linter.unusedSimpArgs false
set_option linter.unusedVariables false

/-- The coefficients of a list. -/
def cf (l : List UInt8) : Nat → UInt8 := fun n => l.getD n 0
def pad (f g : Nat → UInt8) : Nat → UInt8 := fun n => f n ^^^ g n
def pz : Nat → UInt8 := fun _ => 0
def scl (c : UInt8) (f : Nat → UInt8) : Nat → UInt8 := fun n => gm c (f n)
def sh (f : Nat → UInt8) : Nat → UInt8 := fun n => match n with | 0 => 0 | n + 1 => f n
def mulL : List UInt8 → (Nat → UInt8) → Nat → UInt8
  | [], _ => pz
  | c :: l, g => pad (scl c g) (sh (mulL l g))

theorem cf_nil : cf [] = pz := by funext n; simp [cf, pz]
theorem cf_cons (c : UInt8) (l : List UInt8) : cf (c :: l) = pad (fun n => if n = 0 then c else 0) (sh (cf l)) := by
  funext n
  cases n with
  | zero => simp [cf, pad, sh]
  | succ n => simp [cf, pad, sh]
theorem cf_zero (c : UInt8) (l : List UInt8) : cf (c :: l) 0 = c := by simp [cf]
theorem cf_succ (c : UInt8) (l : List UInt8) (n : Nat) : cf (c :: l) (n + 1) = cf l n := by simp [cf]
theorem cf_ge {l : List UInt8} {n : Nat} (h : l.length ≤ n) : cf l n = 0 := by simp [cf, List.getD_eq_getElem?_getD, List.getElem?_eq_none h]
theorem cf_lt {l : List UInt8} {n : Nat} (h : n < l.length) : cf l n = l[n] := by simp [cf, List.getD_eq_getElem?_getD, h]

theorem pad_comm (f g : Nat → UInt8) : pad f g = pad g f := funext fun n => xcomm _ _
theorem pad_assoc (f g h : Nat → UInt8) : pad (pad f g) h = pad f (pad g h) := funext fun n => xassoc _ _ _
theorem pad_left (f g h : Nat → UInt8) : pad f (pad g h) = pad g (pad f h) := funext fun n => xleft _ _ _
theorem pad_self (f : Nat → UInt8) : pad f f = pz := funext fun n => xself _
theorem pad_pz (f : Nat → UInt8) : pad f pz = f := funext fun n => xzero _
theorem pz_pad (f : Nat → UInt8) : pad pz f = f := funext fun n => zerox _
theorem pad_cancel (f g : Nat → UInt8) : pad f (pad f g) = g := funext fun n => xcancel _ _
theorem pad_eq_pz {f g : Nat → UInt8} : pad f g = pz ↔ f = g := by
  constructor
  · intro h; funext n; exact xeq_zero.1 (congrFun h n)
  · rintro rfl; exact pad_self _
theorem padac (a b c d : Nat → UInt8) : pad (pad a b) (pad c d) = pad (pad a c) (pad b d) := by rw [pad_assoc, pad_assoc, pad_left b c d]
theorem scl_pad (c : UInt8) (f g : Nat → UInt8) : scl c (pad f g) = pad (scl c f) (scl c g) := funext fun n => gm_xor _ _ _
theorem scl_xor (c d : UInt8) (f : Nat → UInt8) : scl (c ^^^ d) f = pad (scl c f) (scl d f) := funext fun n => xor_gm _ _ _
theorem scl_scl (c d : UInt8) (f : Nat → UInt8) : scl c (scl d f) = scl (gm c d) f := funext fun n => (gm_assoc _ _ _).symm
theorem scl_comm (c d : UInt8) (f : Nat → UInt8) : scl c (scl d f) = scl d (scl c f) := funext fun n => gm_left_comm _ _ _
theorem scl_pz (c : UInt8) : scl c pz = pz := funext fun n => gm_zero _
theorem scl_zero (f : Nat → UInt8) : scl 0 f = pz := funext fun n => zero_gm _
theorem scl_one (f : Nat → UInt8) : scl 1 f = f := funext fun n => one_gm _
theorem sh_pad (f g : Nat → UInt8) : sh (pad f g) = pad (sh f) (sh g) := by funext n; cases n <;> simp [sh, pad]
theorem sh_scl (c : UInt8) (f : Nat → UInt8) : sh (scl c f) = scl c (sh f) := by funext n; cases n <;> simp [sh, scl, gm_zero]
theorem sh_pz : sh pz = pz := by funext n; cases n <;> simp [sh, pz]
theorem sh_inj {f g : Nat → UInt8} (h : sh f = sh g) : f = g := by funext n; exact congrFun h (n + 1)

theorem mulL_pad (l : List UInt8) (f g : Nat → UInt8) : mulL l (pad f g) = pad (mulL l f) (mulL l g) := by
  induction l with
  | nil => exact (pad_pz _).symm
  | cons c l ih => simp only [mulL, ih, scl_pad, sh_pad]; exact padac _ _ _ _
theorem mulL_scl (l : List UInt8) (c : UInt8) (f : Nat → UInt8) : mulL l (scl c f) = scl c (mulL l f) := by
  induction l with
  | nil => exact (scl_pz _).symm
  | cons d l ih => simp only [mulL, ih, scl_pad, sh_scl]; rw [scl_comm]
theorem mulL_sh (l : List UInt8) (f : Nat → UInt8) : mulL l (sh f) = sh (mulL l f) := by
  induction l with
  | nil => exact sh_pz.symm
  | cons d l ih => simp only [mulL, ih, sh_pad, sh_scl]
theorem mulL_pz (l : List UInt8) : mulL l pz = pz := by
  induction l with
  | nil => rfl
  | cons d l ih => simp only [mulL, ih, scl_pz, sh_pz, pad_pz]
theorem mulL_swap (a b : List UInt8) (f : Nat → UInt8) : mulL a (mulL b f) = mulL b (mulL a f) := by
  induction a with
  | nil => exact (mulL_pz _).symm
  | cons c a ih => simp only [mulL, ih, mulL_pad, mulL_scl, mulL_sh]
def p1 : Nat → UInt8 := cf [1]
theorem p1_eq : p1 = fun n => if n = 0 then 1 else 0 := by funext n; cases n <;> simp [p1, cf]
theorem mulL_one (a : List UInt8) : mulL a p1 = cf a := by
  induction a with
  | nil => exact cf_nil.symm
  | cons c a ih =>
    simp only [mulL, ih, cf_cons]
    congr 1
    funext n
    rw [p1_eq]
    simp only [scl]
    split <;> simp [gm_one, gm_zero]
theorem one_mulL (f : Nat → UInt8) : mulL [1] f = f := by simp only [mulL, scl_one, sh_pz, pad_pz]
theorem mulL_comm (a b : List UInt8) : mulL a (cf b) = mulL b (cf a) := by
  rw [← mulL_one b, mulL_swap, mulL_one]

/-- The sum of the first values. -/
def sx (n : Nat) (h : Nat → UInt8) : UInt8 := match n with | 0 => 0 | n + 1 => sx n h ^^^ h n
theorem sx_left (n : Nat) (h : Nat → UInt8) : sx (n + 1) h = h 0 ^^^ sx n (fun i => h (i + 1)) := by
  induction n with
  | zero => simp [sx]
  | succ n ih => rw [sx, ih, sx, xassoc]
theorem sx_congr {n : Nat} {f g : Nat → UInt8} (h : ∀ i, i < n → f i = g i) : sx n f = sx n g := by
  induction n with
  | zero => rfl
  | succ n ih => rw [sx, sx, ih (fun i hi => h i (by omega)), h n (by omega)]
theorem sx_zero {n : Nat} {f : Nat → UInt8} (h : ∀ i, i < n → f i = 0) : sx n f = 0 := by
  induction n with
  | zero => rfl
  | succ n ih => rw [sx, ih (fun i hi => h i (by omega)), h n (by omega)]; rfl
theorem sx_xor (n : Nat) (f g : Nat → UInt8) : sx n (fun i => f i ^^^ g i) = sx n f ^^^ sx n g := by
  induction n with
  | zero => exact (xself 0).symm
  | succ n ih => simp only [sx, ih]; rw [xassoc, xassoc, xleft (sx n g)]
theorem sx_gm (n : Nat) (c : UInt8) (f : Nat → UInt8) : sx n (fun i => gm c (f i)) = gm c (sx n f) := by
  induction n with
  | zero => exact (gm_zero _).symm
  | succ n ih => simp only [sx, ih, gm_xor]
theorem sx_more {n m : Nat} {f : Nat → UInt8} (h : n ≤ m) (hz : ∀ i, n ≤ i → i < m → f i = 0) : sx m f = sx n f := by
  induction m with
  | zero => obtain rfl : n = 0 := by omega
            rfl
  | succ m ih =>
    by_cases e : n = m + 1
    · rw [e]
    · rw [sx, ih (by omega) (fun i h1 h2 => hz i h1 (by omega)), hz m (by omega) (by omega), xzero]
theorem mulL_conv (a : List UInt8) (g : Nat → UInt8) (n : Nat) : mulL a g n = sx (n + 1) (fun i => gm (cf a i) (g (n - i))) := by
  induction a generalizing n with
  | nil => exact (sx_zero (fun i _ => by rw [cf_nil]; exact zero_gm _)).symm
  | cons c a ih =>
    rw [sx_left]
    show gm c (g n) ^^^ sh (mulL a g) n = _
    rw [cf_zero, Nat.sub_zero]
    congr 1
    cases n with
    | zero => rfl
    | succ n =>
      show mulL a g n = _
      rw [ih]
      exact sx_congr fun i hi => by rw [cf_succ, show n + 1 - (i + 1) = n - i by omega]
theorem mulL_cf {a b : List UInt8} (h : cf a = cf b) (g : Nat → UInt8) : mulL a g = mulL b g := by funext n; rw [mulL_conv, mulL_conv, h]

/-- Higher by so many powers. -/
def shn : Nat → (Nat → UInt8) → Nat → UInt8 | 0, f => f | n + 1, f => sh (shn n f)
theorem shn_apply (n : Nat) (f : Nat → UInt8) (j : Nat) : shn n f j = if j < n then 0 else f (j - n) := by
  induction n generalizing j with
  | zero => simp [shn]
  | succ n ih =>
    cases j with
    | zero => simp [shn, sh]
    | succ j => show shn n f j = _; rw [ih]; simp
theorem mulL_append (a b : List UInt8) (g : Nat → UInt8) : mulL (a ++ b) g = pad (mulL a g) (shn a.length (mulL b g)) := by
  induction a with
  | nil => exact (pz_pad _).symm
  | cons c a ih => simp only [List.cons_append, mulL, ih, sh_pad, List.length_cons, shn, pad_assoc]
theorem mulL_single (c : UInt8) (g : Nat → UInt8) : mulL [c] g = scl c g := by simp only [mulL, sh_pz, pad_pz]
theorem cf_append (a b : List UInt8) : cf (a ++ b) = pad (cf a) (shn a.length (cf b)) := by
  rw [← mulL_one, mulL_append, mulL_one, mulL_one]
theorem mulL_ge {a : List UInt8} {g : Nat → UInt8} {m n : Nat} (hg : ∀ j, m ≤ j → g j = 0) (h : a.length + m ≤ n + 1) (h0 : 0 < m ∨ a.length ≤ n) : mulL a g n = 0 := by
  rw [mulL_conv]
  refine sx_zero fun i hi => ?_
  by_cases hl : i < a.length
  · rw [hg (n - i) (by omega), gm_zero]
  · rw [cf_ge (by omega), zero_gm]

/-! ## Lists of coefficients of a function -/
def ofF (n : Nat) (f : Nat → UInt8) : List UInt8 := (List.range n).map f
theorem ofF_length (n : Nat) (f : Nat → UInt8) : (ofF n f).length = n := by simp [ofF]
theorem cf_ofF (n : Nat) (f : Nat → UInt8) (j : Nat) : cf (ofF n f) j = if j < n then f j else 0 := by
  unfold cf ofF
  rw [List.getD_eq_getElem?_getD, List.getElem?_map]
  by_cases h : j < n
  · simp [h]
  · simp [h]
theorem cf_ofF_eq {n : Nat} {f : Nat → UInt8} (h : ∀ j, n ≤ j → f j = 0) : cf (ofF n f) = f := by
  funext j; rw [cf_ofF]; split
  · rfl
  · exact (h j (by omega)).symm
/-- The product, in as many coefficients as both have together. -/
def prodL (a b : List UInt8) : List UInt8 := ofF (a.length + b.length) (mulL a (cf b))
theorem cf_prodL (a b : List UInt8) : cf (prodL a b) = mulL a (cf b) := by
  refine cf_ofF_eq fun j hj => ?_
  by_cases h : a = []
  · subst h; rfl
  · exact mulL_ge (m := b.length) (fun i hi => cf_ge hi) (by omega) (by have : 0 < a.length := List.length_pos_iff.2 h; omega)
theorem prodL_length (a b : List UInt8) : (prodL a b).length = a.length + b.length := ofF_length _ _
theorem mulL_prodL (a b : List UInt8) (g : List UInt8) : mulL (prodL a b) (cf g) = mulL a (mulL b (cf g)) := by
  rw [mulL_comm, cf_prodL, mulL_swap, mulL_comm g b]

/-! ## Trimming -/
def trimL : List UInt8 → List UInt8
  | [] => []
  | c :: l => match trimL l with | [] => (if c = 0 then [] else [c]) | d :: t => c :: d :: t
theorem cf_trim (l : List UInt8) : cf (trimL l) = cf l := by
  induction l with
  | nil => rfl
  | cons c l ih =>
    simp only [trimL]
    split
    · rename_i h
      rw [h] at ih
      by_cases hc : c = 0
      · rw [if_pos hc]
        funext n
        cases n with
        | zero => rw [cf_zero, hc]; rfl
        | succ n => rw [cf_succ, ← ih]; simp [cf]
      · rw [if_neg hc, cf_cons, cf_cons c l, ← ih]
    · rename_i d t h
      rw [cf_cons, cf_cons c l, ← ih, h]
theorem trim_eq_nil {l : List UInt8} (h : cf l = pz) : trimL l = [] := by
  induction l with
  | nil => rfl
  | cons c l ih =>
    have h0 : c = 0 := by have := congrFun h 0; rwa [cf_zero] at this
    have h1 : cf l = pz := by funext n; have := congrFun h (n + 1); rwa [cf_succ] at this
    simp only [trimL, ih h1, if_pos h0]
theorem trim_ext {a b : List UInt8} (h : cf a = cf b) : trimL a = trimL b := by
  induction a generalizing b with
  | nil => rw [trim_eq_nil (l := b) (by rw [← h, cf_nil])]; rfl
  | cons c a ih =>
    cases b with
    | nil => rw [trim_eq_nil (l := c :: a) (by rw [h, cf_nil])]; rfl
    | cons d b =>
      have h0 : c = d := by have := congrFun h 0; rwa [cf_zero, cf_zero] at this
      have h1 : cf a = cf b := by funext n; have := congrFun h (n + 1); rwa [cf_succ, cf_succ] at this
      simp only [trimL, ih h1, h0]
theorem trim_iff {a b : List UInt8} : trimL a = trimL b ↔ cf a = cf b := ⟨fun h => by rw [← cf_trim a, h, cf_trim], trim_ext⟩
theorem trim_trim (l : List UInt8) : trimL (trimL l) = trimL l := trim_ext (cf_trim l)
theorem trim_length (l : List UInt8) : (trimL l).length ≤ l.length := by
  induction l with
  | nil => exact Nat.le_refl _
  | cons c l ih =>
    simp only [trimL]
    split
    · split <;> simp
    · rename_i d t h; rw [h] at ih; simp at ih ⊢; omega
theorem trim_last (l : List UInt8) (h : trimL l ≠ []) : cf l ((trimL l).length - 1) ≠ 0 := by
  induction l with
  | nil => exact absurd rfl h
  | cons c l ih =>
    simp only [trimL] at h ⊢
    split
    · rename_i h1
      rw [h1] at h
      by_cases hc : c = 0
      · simp [hc] at h
      · rw [if_neg hc]; simpa [cf_zero] using hc
    · rename_i d t h1
      rw [h1] at ih
      have := ih (by simp)
      simpa [cf_succ] using this
/-- The degree, and one. -/
def dl (l : List UInt8) : Nat := (trimL l).length
theorem dl_ge {l : List UInt8} {n : Nat} (h : dl l ≤ n) : cf l n = 0 := by rw [← cf_trim]; exact cf_ge h
theorem dl_last {l : List UInt8} (h : dl l ≠ 0) : cf l (dl l - 1) ≠ 0 := trim_last l (fun e => h (by unfold dl; rw [e]; rfl))
theorem dl_le {l : List UInt8} {n : Nat} : dl l ≤ n ↔ ∀ m, n ≤ m → cf l m = 0 := by
  constructor
  · intro h m hm; exact dl_ge (by omega)
  · intro h
    by_cases e : dl l = 0
    · omega
    · by_cases h2 : dl l ≤ n
      · exact h2
      · exact absurd (h _ (by omega)) (dl_last e)
theorem dl_cf {a b : List UInt8} (h : cf a = cf b) : dl a = dl b := by unfold dl; rw [trim_ext h]
theorem dl_zero {l : List UInt8} : dl l = 0 ↔ cf l = pz := by
  constructor
  · intro h; funext n; exact dl_ge (by omega)
  · intro h; unfold dl; rw [trim_eq_nil h]; rfl
theorem dl_zero' {l : List UInt8} : dl l = 0 ↔ trimL l = [] := by unfold dl; exact List.length_eq_zero_iff
theorem dl_length (l : List UInt8) : dl l ≤ l.length := trim_length l
theorem dl_eq {l : List UInt8} {n : Nat} (h : cf l n ≠ 0) (hz : ∀ m, n < m → cf l m = 0) : dl l = n + 1 := by
  have h1 : dl l ≤ n + 1 := dl_le.2 fun m hm => hz m (by omega)
  have h2 : ¬ dl l ≤ n := fun h3 => h (dl_ge h3)
  omega
/-- A list without noughts at its end. -/
theorem trim_id {l : List UInt8} (h : l = [] ∨ cf l (l.length - 1) ≠ 0) : trimL l = l := by
  rcases h with rfl | h
  · rfl
  · have h1 : dl l = l.length - 1 + 1 := dl_eq h fun m hm => cf_ge (by omega)
    have h2 : l.length ≠ 0 := fun e => h (cf_ge (by omega))
    refine List.ext_getElem (by unfold dl at h1; omega) fun i hi hj => ?_
    have := congrFun (cf_trim l) i
    rwa [cf_lt hi, cf_lt hj] at this

/-- The degree of a product. -/
theorem top_mul {a b : List UInt8} (ha : dl a ≠ 0) (hb : dl b ≠ 0) : mulL a (cf b) (dl a - 1 + (dl b - 1)) = gm (cf a (dl a - 1)) (cf b (dl b - 1)) := by
  rw [mulL_conv]
  have key : ∀ i, i ≠ dl a - 1 → gm (cf a i) (cf b (dl a - 1 + (dl b - 1) - i)) = 0 := fun i hi => by
    by_cases h : i < dl a - 1
    · rw [dl_ge (l := b) (by omega), gm_zero]
    · rw [dl_ge (l := a) (by omega), zero_gm]
  rw [sx_more (n := dl a - 1 + 1) (by omega) (fun i h1 h2 => key i (by omega)), sx, sx_zero (fun i hi => key i (by omega)), zerox, Nat.add_sub_cancel_left]
theorem dl_mul {a b c : List UInt8} (hc : cf c = mulL a (cf b)) (ha : dl a ≠ 0) (hb : dl b ≠ 0) : dl c = dl a + dl b - 1 := by
  have h1 := top_mul ha hb
  have h2 : cf c (dl a - 1 + (dl b - 1)) ≠ 0 := by
    rw [hc, h1]
    intro h
    rcases gm_eq_zero.1 h with h | h
    · exact dl_last ha h
    · exact dl_last hb h
  have h3 := dl_eq h2 fun m hm => by
    rw [hc, mulL_conv]
    refine sx_zero fun i hi => ?_
    by_cases h : i < dl a
    · rw [dl_ge (l := b) (by omega), gm_zero]
    · rw [dl_ge (l := a) (by omega), zero_gm]
  omega
theorem dl_mul_zero {a b c : List UInt8} (hc : cf c = mulL a (cf b)) (h : dl a = 0 ∨ dl b = 0) : dl c = 0 := by
  rw [dl_zero]
  rcases h with h | h
  · rw [hc, mulL_comm, dl_zero.1 h, mulL_pz]
  · rw [hc, dl_zero.1 h, mulL_pz]
/-- Nothing but the nought makes another one's product nought. -/
theorem mul_cancel {a b : List UInt8} (hb : dl b ≠ 0) (h : mulL a (cf b) = pz) : cf a = pz := by
  by_cases ha : dl a = 0
  · exact dl_zero.1 ha
  · have h1 := dl_mul (c := prodL a b) (cf_prodL a b) ha hb
    have h2 : dl (prodL a b) = 0 := dl_zero.2 (by rw [cf_prodL, h])
    omega
/-- Sums of lists. -/
def addL : List UInt8 → List UInt8 → List UInt8
  | [], b => b
  | a, [] => a
  | x :: a, y :: b => (x ^^^ y) :: addL a b
theorem cf_addL (a b : List UInt8) : cf (addL a b) = pad (cf a) (cf b) := by
  induction a generalizing b with
  | nil => rw [addL, cf_nil, pz_pad]
  | cons x a ih =>
    cases b with
    | nil => rw [cf_nil, pad_pz]; rfl
    | cons y b =>
      funext n
      cases n with
      | zero => simp [addL, cf_zero, pad]
      | succ n => have := congrFun (ih b) n; simpa [addL, cf_succ, pad] using this
theorem addL_length (a b : List UInt8) : (addL a b).length = max a.length b.length := by
  induction a generalizing b with
  | nil => simp [addL]
  | cons x a ih =>
    cases b with
    | nil => simp [addL]
    | cons y b => simp [addL, ih]
theorem dl_add {a b c : List UInt8} (hc : cf c = pad (cf a) (cf b)) : dl c ≤ max (dl a) (dl b) := by
  rw [dl_le]
  intro m hm
  rw [hc]
  show cf a m ^^^ cf b m = 0
  rw [dl_ge (l := a) (by omega), dl_ge (l := b) (by omega), xself]

/-- The quotient and the rest are one. -/
theorem div_unique {b q r q' r' : List UInt8} (hb : dl b ≠ 0) (hr : dl r < dl b) (hr' : dl r' < dl b) (h : pad (mulL q (cf b)) (cf r) = pad (mulL q' (cf b)) (cf r')) : cf q = cf q' ∧ cf r = cf r' := by
  have h1 : pad (mulL (addL q q') (cf b)) (cf (addL r r')) = pz := by
    rw [mulL_comm, cf_addL, cf_addL, mulL_pad, mulL_comm b q, mulL_comm b q', padac, h, pad_self]
  have h2 : mulL (addL q q') (cf b) = cf (addL r r') := pad_eq_pz.1 h1
  have h3 : dl (addL q q') = 0 := by
    by_cases e : dl (addL q q') = 0
    · exact e
    · have h4 := dl_mul (c := addL r r') h2.symm e hb
      have h5 := dl_add (cf_addL r r')
      omega
  have h6 : cf q = cf q' := by have := dl_zero.1 h3; rw [cf_addL] at this; exact pad_eq_pz.1 this
  refine ⟨h6, ?_⟩
  rw [mulL_cf h6] at h
  have := congrArg (pad (mulL q' (cf b))) h
  rwa [pad_cancel, pad_cancel] at this

end Go.Proofs.YtpkpfebhdgbgbaaGreatDoor
