/- Bytes as the numbers of a field: sums are xor, products are by shift and reduction. Plain; no program in sight. -/
import Derived.WalkKit
namespace Go.Proofs.YtpkpfebhdgbgbaaGreatDoor
set_option linter.unusedSimpArgs false
set_option linter.unusedVariables false

/-! ## On numbers below 256 -/
def x2N (a : Nat) : Nat := (2 * a) ^^^ (285 * (a / 128))
def bitN (b i : Nat) : Nat := b / 2 ^ i % 2
def gmN (a b : Nat) : Nat :=
  let a1 := x2N a; let a2 := x2N a1; let a3 := x2N a2; let a4 := x2N a3; let a5 := x2N a4; let a6 := x2N a5; let a7 := x2N a6
  (a * bitN b 0) ^^^ (a1 * bitN b 1) ^^^ (a2 * bitN b 2) ^^^ (a3 * bitN b 3) ^^^ (a4 * bitN b 4) ^^^ (a5 * bitN b 5) ^^^ (a6 * bitN b 6) ^^^ (a7 * bitN b 7)

theorem xac (a b c d : Nat) : (a ^^^ b) ^^^ (c ^^^ d) = (a ^^^ c) ^^^ (b ^^^ d) := by
  rw [Nat.xor_assoc, Nat.xor_assoc, ← Nat.xor_assoc b c d, Nat.xor_comm b c, Nat.xor_assoc]
theorem xac8 (p0 p1 p2 p3 p4 p5 p6 p7 q0 q1 q2 q3 q4 q5 q6 q7 : Nat) :
    (p0 ^^^ q0) ^^^ (p1 ^^^ q1) ^^^ (p2 ^^^ q2) ^^^ (p3 ^^^ q3) ^^^ (p4 ^^^ q4) ^^^ (p5 ^^^ q5) ^^^ (p6 ^^^ q6) ^^^ (p7 ^^^ q7) = (p0 ^^^ p1 ^^^ p2 ^^^ p3 ^^^ p4 ^^^ p5 ^^^ p6 ^^^ p7) ^^^ (q0 ^^^ q1 ^^^ q2 ^^^ q3 ^^^ q4 ^^^ q5 ^^^ q6 ^^^ q7) := by
  rw [xac p0 q0, xac _ _ p2 q2, xac _ _ p3 q3, xac _ _ p4 q4, xac _ _ p5 q5, xac _ _ p6 q6, xac _ _ p7 q7]
theorem two_xor (a b : Nat) : 2 * (a ^^^ b) = (2 * a) ^^^ (2 * b) := by
  have := Nat.shiftLeft_xor_distrib (a := a) (b := b) (i := 1)
  simpa [Nat.shiftLeft_eq, Nat.mul_comm] using this
theorem bitN_lt (b i : Nat) : bitN b i < 2 := Nat.mod_lt _ (by decide)
theorem bitN_xor (a b i : Nat) : bitN (a ^^^ b) i = bitN a i ^^^ bitN b i := by
  have h : ∀ x : Nat, bitN x i = (x.testBit i).toNat := fun x => by rw [Nat.toNat_testBit]; rfl
  rw [h, h, h, Nat.testBit_xor]
  cases a.testBit i <;> cases b.testBit i <;> rfl
theorem mul_bit (c p q : Nat) (hp : p < 2) (hq : q < 2) : c * (p ^^^ q) = (c * p) ^^^ (c * q) := by
  obtain rfl | rfl : p = 0 ∨ p = 1 := by omega
  · simp
  · obtain rfl | rfl : q = 0 ∨ q = 1 := by omega
    · simp
    · simp
theorem bit_mul (c d p : Nat) (hp : p < 2) : (c ^^^ d) * p = (c * p) ^^^ (d * p) := by
  obtain rfl | rfl : p = 0 ∨ p = 1 := by omega
  · simp
  · simp
theorem div128 (a : Nat) (h : a < 256) : a / 128 = bitN a 7 := by
  unfold bitN; simp only [show (2 : Nat) ^ 7 = 128 from rfl]; omega
theorem xlt (a b : Nat) (ha : a < 256) (hb : b < 256) : a ^^^ b < 256 := Nat.xor_lt_two_pow (n := 8) ha hb
theorem x2N_lt (a : Nat) (h : a < 256) : x2N a < 256 := by
  have : ∀ a : Fin 256, x2N a.1 < 256 := by decide +kernel
  exact this ⟨a, h⟩
theorem x2N_xor (a b : Nat) (ha : a < 256) (hb : b < 256) : x2N (a ^^^ b) = x2N a ^^^ x2N b := by
  unfold x2N
  rw [div128 _ (xlt _ _ ha hb), div128 _ ha, div128 _ hb, two_xor, bitN_xor, mul_bit _ _ _ (bitN_lt _ _) (bitN_lt _ _), xac]
theorem times_bit_lt (a b i : Nat) (h : a < 256) : a * bitN b i < 256 := by
  have := bitN_lt b i
  obtain h1 | h1 : bitN b i = 0 ∨ bitN b i = 1 := by omega
  all_goals (rw [h1]; omega)
theorem gmN_lt (a b : Nat) (ha : a < 256) : gmN a b < 256 := by
  have h1 := x2N_lt a ha
  have h2 := x2N_lt _ h1
  have h3 := x2N_lt _ h2
  have h4 := x2N_lt _ h3
  have h5 := x2N_lt _ h4
  have h6 := x2N_lt _ h5
  have h7 := x2N_lt _ h6
  unfold gmN
  exact xlt _ _ (xlt _ _ (xlt _ _ (xlt _ _ (xlt _ _ (xlt _ _ (xlt _ _ (times_bit_lt _ _ _ ha) (times_bit_lt _ _ _ h1)) (times_bit_lt _ _ _ h2)) (times_bit_lt _ _ _ h3)) (times_bit_lt _ _ _ h4)) (times_bit_lt _ _ _ h5)) (times_bit_lt _ _ _ h6)) (times_bit_lt _ _ _ h7)
theorem gmN_add (a b c : Nat) : gmN a (b ^^^ c) = gmN a b ^^^ gmN a c := by
  unfold gmN
  simp only [bitN_xor, mul_bit _ _ _ (bitN_lt _ _) (bitN_lt _ _)]
  exact xac8 _ _ _ _ _ _ _ _ _ _ _ _ _ _ _ _
theorem add_gmN (a b c : Nat) (ha : a < 256) (hb : b < 256) : gmN (a ^^^ b) c = gmN a c ^^^ gmN b c := by
  have h1 := x2N_xor a b ha hb
  have h2 := x2N_xor _ _ (x2N_lt a ha) (x2N_lt b hb)
  have h3 := x2N_xor _ _ (x2N_lt _ (x2N_lt a ha)) (x2N_lt _ (x2N_lt b hb))
  have h4 := x2N_xor _ _ (x2N_lt _ (x2N_lt _ (x2N_lt a ha))) (x2N_lt _ (x2N_lt _ (x2N_lt b hb)))
  have h5 := x2N_xor _ _ (x2N_lt _ (x2N_lt _ (x2N_lt _ (x2N_lt a ha)))) (x2N_lt _ (x2N_lt _ (x2N_lt _ (x2N_lt b hb))))
  have h6 := x2N_xor _ _ (x2N_lt _ (x2N_lt _ (x2N_lt _ (x2N_lt _ (x2N_lt a ha))))) (x2N_lt _ (x2N_lt _ (x2N_lt _ (x2N_lt _ (x2N_lt b hb)))))
  have h7 := x2N_xor _ _ (x2N_lt _ (x2N_lt _ (x2N_lt _ (x2N_lt _ (x2N_lt _ (x2N_lt a ha)))))) (x2N_lt _ (x2N_lt _ (x2N_lt _ (x2N_lt _ (x2N_lt _ (x2N_lt b hb))))))
  unfold gmN
  simp only [h1, h2, h3, h4, h5, h6, h7, bit_mul _ _ _ (bitN_lt _ _)]
  exact xac8 _ _ _ _ _ _ _ _ _ _ _ _ _ _ _ _

/-- Two maps that are spread over sums and are the same at the powers of 2 below 256 are the same below 256. -/
theorem byte_bits (b : Nat) (h : b < 256) : b = (1 * bitN b 0) ^^^ (2 * bitN b 1) ^^^ (4 * bitN b 2) ^^^ (8 * bitN b 3) ^^^ (16 * bitN b 4) ^^^ (32 * bitN b 5) ^^^ (64 * bitN b 6) ^^^ (128 * bitN b 7) := by
  have : ∀ b : Fin 256, b.1 = (1 * bitN b 0) ^^^ (2 * bitN b 1) ^^^ (4 * bitN b 2) ^^^ (8 * bitN b 3) ^^^ (16 * bitN b 4) ^^^ (32 * bitN b 5) ^^^ (64 * bitN b 6) ^^^ (128 * bitN b 7) := by decide +kernel
  exact this ⟨b, h⟩
theorem add_ext (f g : Nat → Nat) (hf : ∀ x y, x < 256 → y < 256 → f (x ^^^ y) = f x ^^^ f y) (hg : ∀ x y, x < 256 → y < 256 → g (x ^^^ y) = g x ^^^ g y)
    (h : f 1 = g 1 ∧ f 2 = g 2 ∧ f 4 = g 4 ∧ f 8 = g 8 ∧ f 16 = g 16 ∧ f 32 = g 32 ∧ f 64 = g 64 ∧ f 128 = g 128) (b : Nat) (hb : b < 256) : f b = g b := by
  have f0 : f 0 = 0 := by have := hf 0 0 (by decide) (by decide); simpa using this
  have g0 : g 0 = 0 := by have := hg 0 0 (by decide) (by decide); simpa using this
  have one : ∀ c i, c < 256 → f c = g c → f (c * bitN b i) = g (c * bitN b i) ∧ c * bitN b i < 256 := by
    intro c i hc he
    have := bitN_lt b i
    obtain h1 | h1 : bitN b i = 0 ∨ bitN b i = 1 := by omega
    · rw [h1]; simp [f0, g0]
    · rw [h1]; simp [he, hc]
  obtain ⟨h0, h1, h2, h3, h4, h5, h6, h7⟩ := h
  obtain ⟨k0, l0⟩ := one 1 0 (by decide) h0
  obtain ⟨k1, l1⟩ := one 2 1 (by decide) h1
  obtain ⟨k2, l2⟩ := one 4 2 (by decide) h2
  obtain ⟨k3, l3⟩ := one 8 3 (by decide) h3
  obtain ⟨k4, l4⟩ := one 16 4 (by decide) h4
  obtain ⟨k5, l5⟩ := one 32 5 (by decide) h5
  obtain ⟨k6, l6⟩ := one 64 6 (by decide) h6
  obtain ⟨k7, l7⟩ := one 128 7 (by decide) h7
  have m1 := xlt _ _ l0 l1
  have m2 := xlt _ _ m1 l2
  have m3 := xlt _ _ m2 l3
  have m4 := xlt _ _ m3 l4
  have m5 := xlt _ _ m4 l5
  have m6 := xlt _ _ m5 l6
  rw [byte_bits b hb, hf _ _ m6 l7, hf _ _ m5 l6, hf _ _ m4 l5, hf _ _ m3 l4, hf _ _ m2 l3, hf _ _ m1 l2, hf _ _ l0 l1,
    hg _ _ m6 l7, hg _ _ m5 l6, hg _ _ m4 l5, hg _ _ m3 l4, hg _ _ m2 l3, hg _ _ m1 l2, hg _ _ l0 l1, k0, k1, k2, k3, k4, k5, k6, k7]

theorem all8 {p : Nat → Prop} (h : p 1 ∧ p 2 ∧ p 4 ∧ p 8 ∧ p 16 ∧ p 32 ∧ p 64 ∧ p 128) : p 1 ∧ p 2 ∧ p 4 ∧ p 8 ∧ p 16 ∧ p 32 ∧ p 64 ∧ p 128 := h
theorem gmN_comm (a b : Nat) (ha : a < 256) (hb : b < 256) : gmN a b = gmN b a := by
  refine add_ext (fun x => gmN x b) (fun x => gmN b x) (fun x y hx hy => add_gmN _ _ _ hx hy) (fun x y _ _ => gmN_add _ _ _) ?_ a ha
  have one : ∀ c, c < 256 → (gmN c 1 = gmN 1 c ∧ gmN c 2 = gmN 2 c ∧ gmN c 4 = gmN 4 c ∧ gmN c 8 = gmN 8 c ∧ gmN c 16 = gmN 16 c ∧ gmN c 32 = gmN 32 c ∧ gmN c 64 = gmN 64 c ∧ gmN c 128 = gmN 128 c) → gmN c b = gmN b c :=
    fun c hc h => add_ext (fun x => gmN c x) (fun x => gmN x c) (fun x y _ _ => gmN_add _ _ _) (fun x y hx hy => add_gmN _ _ _ hx hy) h b hb
  exact ⟨one 1 (by decide) (by decide +kernel), one 2 (by decide) (by decide +kernel), one 4 (by decide) (by decide +kernel), one 8 (by decide) (by decide +kernel),
    one 16 (by decide) (by decide +kernel), one 32 (by decide) (by decide +kernel), one 64 (by decide) (by decide +kernel), one 128 (by decide) (by decide +kernel)⟩
theorem gmN_assoc (a b c : Nat) (ha : a < 256) (hb : b < 256) (hc : c < 256) : gmN (gmN a b) c = gmN a (gmN b c) := by
  refine add_ext (fun x => gmN (gmN a b) x) (fun x => gmN a (gmN b x)) (fun x y _ _ => gmN_add _ _ _) (fun x y _ _ => by simp only [gmN_add]) ?_ c hc
  have two : ∀ c, c < 256 → (∀ b, b ∈ [1, 2, 4, 8, 16, 32, 64, 128] → ∀ a, a ∈ [1, 2, 4, 8, 16, 32, 64, 128] → gmN (gmN a b) c = gmN a (gmN b c)) → gmN (gmN a b) c = gmN a (gmN b c) := by
    intro c hc h
    refine add_ext (fun x => gmN (gmN a x) c) (fun x => gmN a (gmN x c)) (fun x y _ _ => ?_) (fun x y hx hy => ?_) ?_ b hb
    · show gmN (gmN a (x ^^^ y)) c = _
      rw [gmN_add, add_gmN _ _ _ (gmN_lt _ _ ha) (gmN_lt _ _ ha)]
    · show gmN a (gmN (x ^^^ y) c) = _
      rw [add_gmN _ _ _ hx hy, gmN_add]
    have one : ∀ b, b < 256 → b ∈ [1, 2, 4, 8, 16, 32, 64, 128] → gmN (gmN a b) c = gmN a (gmN b c) := by
      intro b hb hm
      refine add_ext (fun x => gmN (gmN x b) c) (fun x => gmN x (gmN b c)) (fun x y hx hy => ?_) (fun x y hx hy => add_gmN _ _ _ hx hy) ?_ a ha
      · show gmN (gmN (x ^^^ y) b) c = _
        rw [add_gmN _ _ _ hx hy, add_gmN _ _ _ (gmN_lt _ _ hx) (gmN_lt _ _ hy)]
      · exact ⟨h b hm _ (by decide), h b hm _ (by decide), h b hm _ (by decide), h b hm _ (by decide), h b hm _ (by decide), h b hm _ (by decide), h b hm _ (by decide), h b hm _ (by decide)⟩
    exact ⟨one _ (by decide) (by decide), one _ (by decide) (by decide), one _ (by decide) (by decide), one _ (by decide) (by decide), one _ (by decide) (by decide), one _ (by decide) (by decide), one _ (by decide) (by decide), one _ (by decide) (by decide)⟩
  exact ⟨two 1 (by decide) (by decide +kernel), two 2 (by decide) (by decide +kernel), two 4 (by decide) (by decide +kernel), two 8 (by decide) (by decide +kernel),
    two 16 (by decide) (by decide +kernel), two 32 (by decide) (by decide +kernel), two 64 (by decide) (by decide +kernel), two 128 (by decide) (by decide +kernel)⟩

/-! ## On bytes -/
def gm (a b : UInt8) : UInt8 := UInt8.ofNat (gmN a.toNat b.toNat)
theorem toNat_gm (a b : UInt8) : (gm a b).toNat = gmN a.toNat b.toNat := by
  unfold gm; rw [UInt8.toNat_ofNat']; exact Nat.mod_eq_of_lt (gmN_lt _ _ a.toNat_lt)
theorem toNat_xor (a b : UInt8) : (a ^^^ b).toNat = a.toNat ^^^ b.toNat := UInt8.toNat_xor a b
theorem gm_comm (a b : UInt8) : gm a b = gm b a := UInt8.toNat_inj.1 (by rw [toNat_gm, toNat_gm]; exact gmN_comm _ _ a.toNat_lt b.toNat_lt)
theorem gm_assoc (a b c : UInt8) : gm (gm a b) c = gm a (gm b c) := UInt8.toNat_inj.1 (by simp only [toNat_gm]; exact gmN_assoc _ _ _ a.toNat_lt b.toNat_lt c.toNat_lt)
theorem gm_xor (a b c : UInt8) : gm a (b ^^^ c) = gm a b ^^^ gm a c := UInt8.toNat_inj.1 (by simp only [toNat_gm, toNat_xor]; exact gmN_add _ _ _)
theorem xor_gm (a b c : UInt8) : gm (a ^^^ b) c = gm a c ^^^ gm b c := by rw [gm_comm, gm_xor, gm_comm c a, gm_comm c b]
theorem gm_left_comm (a b c : UInt8) : gm a (gm b c) = gm b (gm a c) := by rw [← gm_assoc, gm_comm a b, gm_assoc]
theorem gm_zero (a : UInt8) : gm a 0 = 0 := by
  have h := gm_xor a 0 0
  simpa using h
theorem zero_gm (a : UInt8) : gm 0 a = 0 := by rw [gm_comm, gm_zero]
theorem all_bytes {p : UInt8 → Prop} [DecidablePred p] (h : ∀ n : Fin 256, p (UInt8.ofNat n.1)) (a : UInt8) : p a := by
  have := h ⟨a.toNat, a.toNat_lt⟩
  simpa using this
theorem gm_one (a : UInt8) : gm a 1 = a := all_bytes (p := fun a => gm a 1 = a) (by decide +kernel) a
theorem one_gm (a : UInt8) : gm 1 a = a := by rw [gm_comm, gm_one]
theorem xself (a : UInt8) : a ^^^ a = 0 := UInt8.xor_self
theorem xcomm (a b : UInt8) : a ^^^ b = b ^^^ a := UInt8.xor_comm a b
theorem xassoc (a b c : UInt8) : a ^^^ b ^^^ c = a ^^^ (b ^^^ c) := UInt8.xor_assoc a b c
theorem xleft (a b c : UInt8) : a ^^^ (b ^^^ c) = b ^^^ (a ^^^ c) := by rw [← xassoc, xcomm a b, xassoc]
theorem xzero (a : UInt8) : a ^^^ 0 = a := UInt8.xor_zero
theorem zerox (a : UInt8) : 0 ^^^ a = a := UInt8.zero_xor
theorem xcancel (a b : UInt8) : a ^^^ (a ^^^ b) = b := by rw [← xassoc, xself, zerox]
theorem xeq_zero {a b : UInt8} : a ^^^ b = 0 ↔ a = b := by
  constructor
  · intro h
    have := congrArg (a ^^^ ·) h
    simp only [xcancel, xzero] at this
    exact this.symm
  · rintro rfl; exact xself _

/-- 2 to a power. -/
def ex : Nat → UInt8 | 0 => 1 | n + 1 => gm 2 (ex n)
theorem ex_add (m n : Nat) : ex (m + n) = gm (ex m) (ex n) := by
  induction m with
  | zero => rw [Nat.zero_add]; exact (one_gm _).symm
  | succ m ih => rw [Nat.succ_add]; show gm 2 (ex (m + n)) = gm (gm 2 (ex m)) (ex n); rw [ih, gm_assoc]
theorem ex_255 : ex 255 = 1 := by decide +kernel
theorem ex_mod (n : Nat) : ex (n % 255) = ex n := by
  have h : ∀ k, ex (255 * k) = 1 := fun k => by
    induction k with
    | zero => rfl
    | succ k ih => rw [Nat.mul_succ, ex_add, ih, ex_255, gm_one]
  conv => rhs; rw [← Nat.div_add_mod n 255, ex_add, h, one_gm]

/-- The powers of 2, from one on. -/
def exL : Nat → UInt8 → List UInt8 | 0, _ => [] | n + 1, a => a :: exL n (gm 2 a)
theorem exL_length (n : Nat) (a : UInt8) : (exL n a).length = n := by
  induction n generalizing a with
  | zero => rfl
  | succ n ih => simp [exL, ih]
theorem exL_get (n : Nat) (a : UInt8) (i : Nat) (h : i < n) : (exL n a)[i]? = some (gm (ex i) a) := by
  induction n generalizing a i with
  | zero => omega
  | succ n ih =>
    cases i with
    | zero => simp [exL, ex, one_gm]
    | succ i =>
      simp only [exL, List.getElem?_cons_succ]
      rw [ih _ _ (by omega)]
      show some (gm (ex i) (gm 2 a)) = some (gm (gm 2 (ex i)) a)
      rw [gm_left_comm, gm_assoc]
/-- How many times 2 is by itself in a byte. -/
def lg (a : UInt8) : Nat := (exL 255 1).idxOf a
def lgCheck : Bool := (List.range 255).all fun n => let a := UInt8.ofNat (n + 1); let k := lg a; decide (k < 255) && decide ((exL 255 1)[k]? = some a)
theorem lg_check : lgCheck = true := by decide +kernel
theorem lg_ex {a : UInt8} (h : a ≠ 0) : lg a < 255 ∧ ex (lg a) = a := by
  have h1 := lg_check
  unfold lgCheck at h1
  rw [List.all_eq_true] at h1
  have hp : 0 < a.toNat := Nat.pos_of_ne_zero (fun e => h (UInt8.toNat_inj.1 e))
  have h2 := h1 (a.toNat - 1) (List.mem_range.2 (by have := a.toNat_lt; omega))
  have h3 : UInt8.ofNat (a.toNat - 1 + 1) = a := by rw [Nat.sub_add_cancel hp]; simp
  simp only [h3, Bool.and_eq_true, decide_eq_true_eq] at h2
  refine ⟨h2.1, ?_⟩
  have := exL_get 255 1 (lg a) h2.1
  rw [h2.2, gm_one] at this
  exact (Option.some.inj this).symm
theorem ex_ne (n : Nat) : ex n ≠ 0 := by
  have h : ∀ k, k < 255 → ex k ≠ 0 := fun k hk he => by
    have h2 := ex_255
    rw [show 255 = k + (255 - k) by omega, ex_add, he, zero_gm] at h2
    exact absurd h2 (by decide)
  rw [← ex_mod]
  exact h _ (Nat.mod_lt _ (by decide))
def exInj : Bool := (exL 255 1).Nodup
theorem ex_inj {m n : Nat} (hm : m < 255) (hn : n < 255) (h : ex m = ex n) : m = n := by
  have hd : (exL 255 1).Nodup := by decide +kernel
  have h1 := exL_get 255 1 m hm
  have h2 := exL_get 255 1 n hn
  rw [gm_one] at h1 h2
  have l : (exL 255 1).length = 255 := exL_length _ _
  have h3 : (exL 255 1)[m]? = (exL 255 1)[n]? := by rw [h1, h2, h]
  exact (List.getElem?_inj (by omega) hd).1 h3
theorem lg_of_ex (n : Nat) (h : n < 255) : lg (ex n) = n := by
  obtain ⟨h1, h2⟩ := lg_ex (ex_ne n)
  exact ex_inj h1 h h2
/-- The byte by which the product is 1 (0 of 0). -/
def inv (a : UInt8) : UInt8 := if a = 0 then 0 else ex (255 - lg a)
theorem gm_inv {a : UInt8} (h : a ≠ 0) : gm a (inv a) = 1 := by
  obtain ⟨h1, h2⟩ := lg_ex h
  unfold inv
  rw [if_neg h]
  have h3 : gm (ex (lg a)) (ex (255 - lg a)) = 1 := by rw [← ex_add, Nat.add_sub_cancel' (by omega), ex_255]
  rwa [h2] at h3
theorem gm_eq_zero {a b : UInt8} : gm a b = 0 ↔ a = 0 ∨ b = 0 := by
  constructor
  · intro h
    by_cases ha : a = 0
    · exact .inl ha
    · right
      have := congrArg (gm (inv a)) h
      rw [← gm_assoc, gm_comm (inv a) a, gm_inv ha, one_gm, gm_zero] at this
      exact this
  · rintro (rfl | rfl)
    · exact zero_gm _
    · exact gm_zero _
theorem inv_ne {a : UInt8} (h : a ≠ 0) : inv a ≠ 0 := fun e => by
  have := gm_inv h
  rw [e, gm_zero] at this
  exact absurd this (by decide)
theorem gm_cancel {a b c : UInt8} (h : a ≠ 0) (he : gm a b = gm a c) : b = c := by
  have := congrArg (gm (inv a)) he
  rwa [← gm_assoc, ← gm_assoc, gm_comm (inv a) a, gm_inv h, one_gm, one_gm] at this
theorem gm_tab (a b : UInt8) (ha : a ≠ 0) (hb : b ≠ 0) : ex (lg a + lg b) = gm a b := by rw [ex_add, (lg_ex ha).2, (lg_ex hb).2]

end Go.Proofs.YtpkpfebhdgbgbaaGreatDoor
