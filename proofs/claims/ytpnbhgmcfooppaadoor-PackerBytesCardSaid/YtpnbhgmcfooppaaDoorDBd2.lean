/- The packets' bodies of sections (Bodies, in the reference). Conditions: the sections have fewer than 2^40 bytes together. -/
import Derived.Test.YtpnbhgmcfooppaaDoorBd1
import Derived.Test.YtpnbhgmcfooppaaDoorDStrsAt
import Derived.Deep.RegionLaw
import Derived.Deep.DeepCutAuto
namespace Go.Proofs.YtpnbhgmcfooppaaDoor
open Go.RowKit
set_option linter.unusedSimpArgs false
set_option linter.unusedVariables false

/-! What it answers, in plain Lean. -/
def catL : List ByteArray → ByteArray
  | [] => ⟨#[]⟩
  | s :: l => s ++ catL l
/-- So many bytes are taken of sections: what is left of the one that is begun, and those behind it. -/
def advG : List ByteArray → Nat → ByteArray × List ByteArray
  | [], _ => (⟨#[]⟩, [])
  | x :: l, m => if m = 0 then (⟨#[]⟩, x :: l) else if m < x.size then (x.extract m x.size, l) else advG l (m - x.size)
def packG : Nat → ByteArray → List ByteArray → List (Bool × ByteArray)
  | 0, _, _ => []
  | k + 1, t, l =>
    if (t ++ catL l).size = 0 then []
    else if 183 ≤ t.size then (false, t.extract 0 (min t.size 184)) :: packG k (t.extract (min t.size 184) t.size) l
    else if t.size ≠ 0 ∧ l = [] then [(false, fillG t)]
    else (true, fillG (strOfNums [(t.size : Int)] ++ (t ++ catL l).extract 0 (min 183 (t ++ catL l).size))) ::
      packG k (advG l (min 183 (t ++ catL l).size - t.size)).1 (advG l (min 183 (t ++ catL l).size - t.size)).2

theorem append_nil (s : ByteArray) : s ++ (⟨#[]⟩ : ByteArray) = s := ByteArray.append_empty
theorem nil_append (s : ByteArray) : (⟨#[]⟩ : ByteArray) ++ s = s := ByteArray.empty_append
theorem extract_whole (s : ByteArray) : s.extract 0 s.size = s := ByteArray.extract_zero_size
theorem extract_left (a b : ByteArray) (i : Nat) (h : i ≤ a.size) : (a ++ b).extract 0 i = a.extract 0 i := by
  rw [ByteArray.extract_append, Nat.zero_sub, show i - a.size = 0 by omega, ByteArray.extract_same]; exact append_nil _
theorem extract_right (a b : ByteArray) (i : Nat) (h : i ≤ a.size) : (a ++ b).extract i (a ++ b).size = a.extract i a.size ++ b := by
  rw [ByteArray.extract_append, show i - a.size = 0 by omega, ByteArray.size_append, show a.size + b.size - a.size = b.size by omega, extract_whole]
  congr 1
  apply ByteArray.ext
  rw [ByteArray.data_extract, ByteArray.data_extract]
  have h1 : a.data.size = a.size := rfl
  apply Array.ext
  · simp only [Array.size_extract]; omega
  · intro j g1 g2; simp only [Array.getElem_extract]
theorem extract_behind (a b : ByteArray) (i : Nat) (h : a.size ≤ i) : (a ++ b).extract i (a ++ b).size = b.extract (i - a.size) b.size := by
  rw [ByteArray.extract_append, ByteArray.size_append, show a.size + b.size - a.size = b.size by omega]
  rw [show a.extract i (a.size + b.size) = ⟨#[]⟩ from ByteArray.extract_eq_empty_iff.2 (by omega)]
  exact nil_append _
theorem adv_cat : ∀ (l : List ByteArray) (m : Nat), m ≤ (catL l).size → (advG l m).1 ++ catL (advG l m).2 = (catL l).extract m (catL l).size
  | [], m, h => by
    have : m = 0 := by simpa [catL, ByteArray.size] using h
    subst this; rfl
  | x :: l, m, h => by
    unfold advG
    by_cases h0 : m = 0
    · subst h0
      rw [if_pos rfl]
      simp only
      rw [nil_append, extract_whole]
    · rw [if_neg h0]
      by_cases h1 : m < x.size
      · rw [if_pos h1]
        simp only
        exact (extract_right x (catL l) m (by omega)).symm
      · rw [if_neg h1, adv_cat l (m - x.size) (by rw [catL, ByteArray.size_append] at h; omega)]
        exact (extract_behind x (catL l) m (by omega)).symm
theorem pack_nil (k : Nat) {t : ByteArray} {l : List ByteArray} (h : (t ++ catL l).size = 0) : packG k t l = [] := by
  cases k with
  | zero => rfl
  | succ k => rw [packG, if_pos h]
theorem pack_rest (k : Nat) {t : ByteArray} {l : List ByteArray} (h0 : ¬ (t ++ catL l).size = 0) (h : 183 ≤ t.size) :
    packG (k + 1) t l = (false, t.extract 0 (min t.size 184)) :: packG k (t.extract (min t.size 184) t.size) l := by
  rw [packG, if_neg h0, if_pos h]
theorem pack_last (k : Nat) {t : ByteArray} (h0 : ¬ t.size = 0) (h : ¬ 183 ≤ t.size) : packG (k + 1) t [] = [(false, fillG t)] := by
  rw [packG, if_neg (by rw [catL, append_nil]; exact h0), if_neg h, if_pos ⟨h0, rfl⟩]
theorem pack_begin (k : Nat) {t : ByteArray} {l : List ByteArray} (h0 : ¬ (t ++ catL l).size = 0) (h : ¬ 183 ≤ t.size) (h1 : ¬ (t.size ≠ 0 ∧ l = [])) :
    packG (k + 1) t l = (true, fillG (strOfNums [(t.size : Int)] ++ (t ++ catL l).extract 0 (min 183 (t ++ catL l).size))) ::
      packG k (advG l (min 183 (t ++ catL l).size - t.size)).1 (advG l (min 183 (t ++ catL l).size - t.size)).2 := by
  rw [packG, if_neg h0, if_neg h, if_neg h1]

def pkV (p : Bool × ByteArray) : List Value := [.int .i64 0, .bool p.1, .int .i64 0, .bool false, .string p.2]
def pkVals (L : List (Bool × ByteArray)) : List Value := L.flatMap pkV
theorem length_pkVals (L : List (Bool × ByteArray)) : (pkVals L).length = L.length * 5 := by
  induction L with
  | nil => rfl
  | cons p L ih => simp only [pkVals, List.flatMap_cons, List.length_append, List.length_cons] at ih ⊢; rw [ih]; simp [pkV]; omega
theorem pkZ_cells : (Value.agg #[.int .i64 0, .bool false, .int .i64 0, .bool false, .string ByteArray.empty]).cells.size = 5 := by kernel_rfl
theorem one_pk (p : Bool × ByteArray) : ∀ u ∈ pkV p, u.oneCell' = true := by
  intro u hu
  simp only [pkV, List.mem_cons, List.not_mem_nil, or_false] at hu
  rcases hu with rfl | rfl | rfl | rfl | rfl <;> rfl
theorem row_newN (w : World) (c : Array Value) (e n k : Nat) (h : c.size = n * k) (hm : n ≤ maxLen) :
    (w.alloc (.cells c e)).ownsRow 0 e k (.slice (some ⟨w.heap.size, 0, none⟩) n n) n c.toList :=
  ⟨by simp [h], .inr ⟨w.heap.size, n, c, rfl, Nat.zero_le _, heap_alloc_new w _, Nat.le_refl _, hm, by simp [h], by rw [List.take_of_length_le (by simp [h])]⟩⟩
theorem reads_pk (w : World) (p : Bool × ByteArray) : Reads (w.alloc (.cells #[.int .i64 0, .bool p.1, .int .i64 0, .bool false, .string p.2] 33)) 5 (.slice (some ⟨w.heap.size, 0, none⟩) 1 1) 1 (pkV p) :=
  Reads.of_own (row_newN w #[.int .i64 0, .bool p.1, .int .i64 0, .bool false, .string p.2] 33 1 5 rfl (by decide))
theorem pkVals_snoc (L : List (Bool × ByteArray)) (p : Bool × ByteArray) : pkVals L ++ pkV p = pkVals (L ++ [p]) := by simp [pkVals]
theorem Tryd.infoK : (Tryd.prog.info? 33).map (fun i => (i.zero, i.size, i.bytes)) = some (some (.agg #[.int .i64 0, .bool false, .int .i64 0, .bool false, .string ByteArray.empty]), 5, 48) := by kernel_rfl

def BdPost (w : World) (L : List (Bool × ByteArray)) (e : Ending) (w' : World) : Prop :=
  ∃ v, e = .returned v ∧ w'.ownsRow 0 33 5 v L.length (pkVals L) ∧ (∀ k, v.ownBlock = some k → w.heap.size ≤ k) ∧ Same [] w w'
def lenS (v : Value) : Nat := match v with | .string s => s.size | _ => 0

/-- What is left of a conversion whose cells are no bytes. -/
noncomputable def slowConv (g n c : Nat) (W : World) : Result Value := (convert 48 9 (.slice (some ⟨g, 0, none⟩) n c)).run Tryd.prog W
theorem conv1 (W : World) (g c : Nat) : (convert 48 9 (.slice (some ⟨g, 0, none⟩) 1 c)).run Tryd.prog W =
    (match W.cell? ⟨g, 0, none⟩ with | some (.int .u8 a0) => .ok (.string (strOfNums [a0])) W | _ => slowConv g 1 c W) := by
  split
  · rename_i a0 h0
    refine run_convert_bytes_arg W _ 5 Tryd.underlying48 Tryd.underlying5 g 0 1 c [a0] rfl (fun i hi => ?_) _ Tryd.underlying9
    have hi' : i = 0 := by omega
    subst hi'
    · exact h0
  · rfl
theorem snums (xs : List Int) : (strOfNums xs).size = xs.length := strOfNums_size xs
theorem int_sub (a b : Int) (n : Nat) (h : a - b = n) (hn : n < 1000000000000000) : Value.int .i64 (wrap64 (a - b)) = .int .i64 n := by rw [h, IntWalk.wrap64_in _ (by omega)]

section
variable {P : Program} {w : World}
/-- append, as one step of a region that draws its order. -/
theorem step_append_src {ops : Array Oper} {o : Oper} {a : Act} {K : Act → World → Prop} {Q : Exit → Act → World → Prop} {E : Prop}
    (hg : o.guard = none) (s x : Operand) (t : TypeId) (hop : o.op = Op.call { callee := Callee.builtin Builtin.append, args := #[s, x], argTypes := #[t, t] })
    (base : Nat) (e : TypeId) (i : TypeInfo) (z : Value) (size bytes : Nat) (ht : P.underlying t = some (.slice e)) (hi : P.info? e = some i) (hz : i.zero = some z)
    (hsize : i.size = size) (hby : i.bytes = bytes) (hzs : z.cells.size = size) (hsz : 0 < size)
    (v : Value) (n : Nat) (xs : List Value) (hs : a.eval s = v) (hown : w.ownsRow base e size v n xs)
    (sv : Value) (m : Nat) (ys : List Value) (hx : a.eval x = sv) (hr : Reads w size sv m ys) (h1 : ∀ u ∈ ys, u.oneCell' = true)
    (h63 : n + m ≤ maxLen) (hbytes : (n + m) * bytes ≤ 140737488355328) (hbase : base ≤ w.heap.size)
    (hK : ∀ v' w', w'.ownsRow base e size v' (n + m) (xs ++ ys) → w.grownBy w' v.ownBlock → (v'.ownBlock = v.ownBlock ∨ v'.ownBlock = some w.heap.size) → K (a.put o.dst v') w') :
    if Region.wanted o (yielded ops a.tmps) = true then Oper.wp P o a w K Q else E := by
  have hw : Region.wanted o (yielded ops a.tmps) = true := by simp [Region.wanted, hg]
  rw [if_pos hw]
  obtain ⟨v', w', hrun, h2, h3, h5⟩ := run_append_src (P := P) base t o.type e i z size bytes ht hi hz hsize hby hzs hsz v n xs hown sv m ys hr h1 h63 hbytes hbase
  unfold Oper.wp
  simp only [execOp, hop, resolve, invoke, builtin, Sem.run_bind, Sem.run_pure, Result.andThen_ok, List.map_toArray, List.map_cons, List.map_nil, hs, hx, hrun]
  exact hK v' w' h2 h3 h5
/-- A call, as one step of such a region. -/
theorem step_enter {ops : Array Oper} {o : Oper} {a : Act} {K : Act → World → Prop} {Q : Exit → Act → World → Prop} {E : Prop}
    (hg : o.guard = none) (f : Nat) (args : Array Value) (hrun : (execOp a.eval o).run P w = .ok (.enter f args) w)
    (Post : Ending → World → Prop) (hc : Calls P f args w Post) (hK : ∀ e w', Post e w' → ∃ v, e = .returned v ∧ K (a.put o.dst v) w') :
    if Region.wanted o (yielded ops a.tmps) = true then Oper.wp P o a w K Q else E := by
  have hw : Region.wanted o (yielded ops a.tmps) = true := by simp [Region.wanted, hg]
  rw [if_pos hw]
  unfold Oper.wp
  rw [hrun, Oper.upon_enter]
  exact hc.mono fun e w' h => by
    obtain ⟨v, rfl, hk⟩ := hK e w' h
    exact hk
end

theorem catL_append : ∀ (a b : List ByteArray), catL (a ++ b) = catL a ++ catL b
  | [], b => (nil_append _).symm
  | x :: a, b => by rw [List.cons_append, catL, catL, catL_append a b, ByteArray.append_assoc]
theorem catL_one (x : ByteArray) : catL [x] = x := append_nil x
theorem suffix_cell {w : World} {ad : Option Addr} {L pre ls : List ByteArray} {x : ByteArray} (hc : ∀ (i : Nat) (h : i < L.length), ∃ a : Addr, ad = some a ∧ a.spot = none ∧ w.cell? ⟨a.block, a.off + i, none⟩ = some (.string L[i])) (h : L = pre ++ x :: ls) :
    ∃ g o, ad = some ⟨g, o, none⟩ ∧ w.cell? ⟨g, o + pre.length, none⟩ = some (.string x) := by
  subst h
  obtain ⟨⟨g, o, sp⟩, rfl, hs, hx⟩ := hc pre.length (by simp)
  simp only at hs; subst hs
  exact ⟨g, o, rfl, by simpa using hx⟩

/-- How the packets stand, some of them made. -/
structure BdAt (L : List ByteArray) (k : Nat) (t : ByteArray) (pre ls : List ByteArray) (out : List (Bool × ByteArray)) : Prop where
  all : L = pre ++ ls
  fuel : (t ++ catL ls).size ≤ k
  few : out.length + (t ++ catL ls).size ≤ (catL L).size
  packs : packG (catL L).size ⟨#[]⟩ L = out ++ packG k t ls
theorem BdAt.start (L : List ByteArray) : BdAt L (catL L).size ⟨#[]⟩ [] L [] := ⟨rfl, by rw [nil_append]; exact Nat.le_refl _, by rw [nil_append]; exact Nat.le_of_eq (Nat.zero_add _), rfl⟩

/-- So many bytes of sections, in the making. -/
def AdvAt (ls : List ByteArray) (M : Nat) (t' : ByteArray) (ls' : List ByteArray) (m : Nat) : Prop := (t' = ⟨#[]⟩ ∧ advG ls M = advG ls' m) ∨ (m = 0 ∧ advG ls M = (t', ls'))
theorem AdvAt.done {ls : List ByteArray} {M : Nat} {t' : ByteArray} {ls' : List ByteArray} {m : Nat} (h : AdvAt ls M t' ls' m) (h0 : m = 0 ∨ ls' = []) : advG ls M = (t', ls') := by
  rcases h with ⟨rfl, h⟩ | ⟨_, h⟩
  · rw [h]
    cases ls' with
    | nil => rfl
    | cons x l =>
      rcases h0 with rfl | h0
      · rw [advG, if_pos rfl]
      · cases h0
  · exact h

theorem mem_size : ∀ {L : List ByteArray} {x : ByteArray}, x ∈ L → x.size ≤ (catL L).size
  | y :: L, x, h => by
    rw [catL, ByteArray.size_append]
    rcases List.mem_cons.1 h with rfl | h
    · omega
    · have := mem_size h; omega
theorem fr_next {w0 W : World} {v v' : Value} (h : v'.ownBlock = v.ownBlock ∨ v'.ownBlock = some W.heap.size) (hf : ∀ b, v.ownBlock = some b → w0.heap.size ≤ b) (hs : Same [] w0 W) : ∀ b, v'.ownBlock = some b → w0.heap.size ≤ b := by
  intro b hb
  rcases h with h | h
  · rw [h] at hb; exact hf b hb
  · rw [h] at hb; cases hb; exact hs.size
theorem sm_next {w0 W w4 : World} {v : Value} (hg : W.grownBy w4 v.ownBlock) (hf : ∀ b, v.ownBlock = some b → w0.heap.size ≤ b) (hs : Same [] w0 W) : Same [] w0 w4 :=
  hs.trans (Same.of_grown hg) (fun x hx hlt => by have := hf x (by simpa using hx); omega)

set_option maxRecDepth 100000 in
set_option maxHeartbeats 4000000 in
theorem bodies_any (L : List ByteArray) (v : Value) (w : World) (hr : StrsAt w v L) (hn : L.length < 1099511627776) (hs : (catL L).size < 1099511627776) :
    Calls Tryd.prog 21 #[v] w (BdPost w (packG (catL L).size ⟨#[]⟩ L)) := by
  obtain ⟨i0, hi, hz0, hz1, hz2⟩ := info_parts Tryd.infoK
  obtain ⟨ad, c, rfl, hc1, hc2, hc3⟩ := hr
  have HC := Lib.hid hc3
  clear hc3
  go_enter Tryd.func21, Tryd.ntmps21
  go_wp2_with fail
  go_loopw [3, 4] (fun s3 s4 wr => ∃ pre ls : List ByteArray, L = pre ++ ls ∧ s3 = .string (catL pre) ∧ s4 = .int .i64 pre.length ∧ wr = w) (fun _ s4 _ => L.length - (intOf s4).toNat)
  case atStart => exact ⟨[], L, rfl, rfl, rfl, by trivial⟩
  case round =>
    obtain ⟨pre, ls, hL, rfl, rfl, rfl⟩ := hrel
    cases ls with
    | cons x ls =>
      have hlen : pre.length < L.length := by rw [hL]; simp
      have hlt : (pre.length : Int) < (L.length : Int) := by omega
      obtain ⟨g, o, rfl, hx⟩ := suffix_cell HC.out hL
      have hcat : catL L = catL pre ++ (x ++ catL ls) := by rw [hL, catL_append]; rfl
      have hz := congrArg ByteArray.size hcat
      rw [ByteArray.size_append, ByteArray.size_append] at hz
      have HL := Lib.hid hL
      have hca : catL pre ++ x = catL (pre ++ [x]) := by rw [catL_append, catL_one]
      have HCA := Lib.hid hca
      have HZ := Lib.hid (show (catL pre).size + x.size < 1099511627776 by omega)
      generalize catL pre = cp at *
      clear hcat hz hL hca
      have hzz := HZ.out
      go_wp2_with fail
      go_roundw
      case rel => exact ⟨pre ++ [x], ls, by rw [HL.out]; simp, by rw [← HCA.out], by simp, by trivial⟩
      case measure => simp [intOf]; omega
    | nil =>
      have hL2 : L = pre := by rw [hL]; simp
      subst hL2
      have hlt : ¬ (L.length : Int) < (L.length : Int) := by omega
      clear hL
      go_wp2_with fail
      obtain ⟨w0, rfl⟩ : ∃ w0 : World, w0 = wr := ⟨_, rfl⟩
      go_loopw [3, 5, 6, 7] (fun s3 s5 s6 s7 wv => ∃ (k : Nat) (t : ByteArray) (pre ls : List ByteArray) (out : List (Bool × ByteArray)), BdAt L k t pre ls out ∧ s3 = .string (t ++ catL ls) ∧ s6 = .int .i64 t.size ∧ s7 = .int .i64 pre.length ∧
        wv.ownsRow 0 33 5 s5 out.length (pkVals out) ∧ (∀ b, s5.ownBlock = some b → w0.heap.size ≤ b) ∧ Same [] w0 wv) (fun s3 _ _ _ _ => lenS s3)
      case atStart => exact ⟨_, ⟨#[]⟩, [], L, [], BdAt.start L, by rw [nil_append], rfl, rfl, World.ownsRow_nil _ _ _ _, fun b hb => (by cases hb), Same.refl _ _⟩
      case round =>
        obtain ⟨k, t, pre, ls, out, ⟨hL, hk, hfew, hpk⟩, rfl, rfl, rfl, hown, hfr, hsm⟩ := hrel
        have hpl : pre.length ≤ L.length := by rw [hL]; simp
        have hsz : (t ++ catL ls).size = t.size + (catL ls).size := ByteArray.size_append
        have HO := Lib.hid hown; have HF := Lib.hid hfr; have HS := Lib.hid hsm; have HL := Lib.hid hL; have HP := Lib.hid hpk; have HZ := Lib.hid hsz
        generalize hR : t ++ catL ls = R at hsz hk hfew ⊢
        have HR := Lib.hid hR
        clear hown hfr hsm hL hpk hR HZ
        by_cases h0 : R.size = 0
        · have h0' : ¬ (0 : Int) < (R.size : Int) := by omega
          have hres := HP.out
          rw [pack_nil k (by rw [HR.out]; exact h0), List.append_nil] at hres
          have HRS := Lib.hid hres
          clear hres hsz hk hfew h0
          go_wp2_with fail
          go_ret
          rw [HRS.out]
          exact ⟨_, rfl, HO.out, HF.out, HS.out⟩
        · have h0' : (0 : Int) < (R.size : Int) := by omega
          obtain ⟨k', rfl⟩ : ∃ k', k = k' + 1 := ⟨k - 1, by omega⟩
          by_cases h1 : 183 ≤ t.size
          · have h1' : (183 : Int) ≤ (t.size : Int) := by omega
            obtain ⟨n, hn1⟩ : ∃ n, n = min t.size 184 := ⟨_, rfl⟩
            have hcs : ((184 : Int) < (t.size : Int) ∧ n = 184) ∨ (¬ (184 : Int) < (t.size : Int) ∧ n = t.size) := by omega
            have hnR : (n : Int) ≤ (R.size : Int) := by omega
            have hnt : n ≤ t.size := by omega
            have hn0 : 0 < n := by omega
            have htR : t.size ≤ R.size := by omega
            have hpk := HP.out
            rw [pack_rest k' (by rw [HR.out]; exact h0) h1, ← hn1] at hpk
            have e1 : t.extract 0 n = R.extract 0 n := by rw [← HR.out, extract_left _ _ _ hnt]
            have e2 : t.extract n t.size ++ catL ls = R.extract n R.size := by rw [← HR.out, extract_right _ _ _ hnt]
            have e3 : (t.extract n t.size).size = t.size - n := by rw [ByteArray.size_extract]; omega
            have e4 : (R.extract n R.size).size = R.size - n := by rw [ByteArray.size_extract]; omega
            rw [e1] at hpk
            have HP1 := Lib.hid hpk; have E2 := Lib.hid e2; have E3 := Lib.hid e3; have E4 := Lib.hid e4; have HK := Lib.hid hk; have HW := Lib.hid hfew; have HN := Lib.hid hn1
            have hlen : (out.length + 1) * 48 ≤ 140737488355328 := by omega
            have hl63 : out.length + 1 ≤ maxLen := by unfold maxLen; omega
            clear hpk e1 e2 e3 e4 hk hfew hn1 hsz h0
            have HQ := Lib.hid (one_pk (false, R.extract 0 n))
            have hnr : R.extract 0 n = R.extract 0 n := rfl
            go_upto_region 11 with fail
            go_cut [8] (fun s8 wx => s8 = .int .i64 n ∧ wx = wr)
            case first =>
              rcases hcs with ⟨hc1, rfl⟩ | ⟨hc1, rfl⟩
              all_goals (go_wp2_with fail; go_meet; exact ⟨rfl, rfl⟩)
            obtain ⟨rfl, rfl⟩ := hcut
            clear hcs hnr
            go_wp2_with (first | (at_builtin; refine wpList_append_src rfl (.tmp 30) (.tmp 35) 49 rfl 0 33 i0 _ 5 48 Tryd.underlying49 hi hz0 hz1 hz2 pkZ_cells (by decide) _ out.length (pkVals out) rfl (by exact HO.out.alloc _) _ 1 (pkV (false, R.extract 0 n)) rfl (by exact reads_pk wc (false, R.extract 0 n)) (one_pk _) hl63 hlen (Nat.zero_le _) ?_; intro v' w4 hown hgrow hat; have HOWN := Lib.hid hown; have HG := Lib.hid hgrow; have HAT := Lib.hid hat; clear hown hgrow hat) | fail)
            go_roundw
            case rel =>
              refine ⟨k', t.extract n t.size, pre, ls, out ++ [(false, R.extract 0 n)], ⟨HL.out, ?_, ?_, ?_⟩, ?_, ?_, rfl, ?_, ?_, ?_⟩
              · rw [E2.out, E4.out]; have := HK.out; omega
              · rw [E2.out, E4.out, List.length_append]; have := HW.out; simp only [List.length_cons, List.length_nil]; omega
              · rw [HP1.out]; simp
              · rw [E2.out]
              · exact int_sub _ _ _ (by rw [E3.out]; omega) (by rw [E3.out]; have := HW.out; omega)
              · rw [List.length_append, ← pkVals_snoc]; exact HOWN.out
              · exact fr_next HAT.out HF.out (HS.out.alloc _)
              · exact sm_next HG.out HF.out (HS.out.alloc _)
            case measure => show (R.extract n R.size).size < R.size; rw [E4.out]; omega
          · have h1' : ¬ (183 : Int) ≤ (t.size : Int) := by omega
            by_cases h2 : t.size ≠ 0 ∧ ls = []
            · obtain ⟨h2, rfl⟩ := h2
              have h2' : (0 : Int) < (t.size : Int) := by omega
              obtain rfl : pre = L := by rw [HL.out, List.append_nil]
              have heq : ((pre.length : Int) == (pre.length : Int)) = true := by simp
              have hpk := HP.out
              rw [pack_last k' h2 h1] at hpk
              have e1 : t = R := by rw [← HR.out, catL, append_nil]
              rw [e1] at hpk
              have HP1 := Lib.hid hpk; have HW := Lib.hid hfew
              have hlen : (out.length + 1) * 48 ≤ 140737488355328 := by omega
              have hl63 : out.length + 1 ≤ maxLen := by unfold maxLen; omega
              have HFL := Lib.hid (fun W => filled_any R W (by omega))
              clear hpk e1 hk hfew hsz h0 h2
              go_wp2_with fail
              (with_reducible refine (HFL.out _).mono ?_)
              rintro e w2 ⟨rfl, s2⟩
              have HO2 := Lib.hid (own_same HO.out s2 (fun _ _ => by simp))
              have S2 := Lib.hid (HS.out.trans_nil s2)
              generalize fillG R = F at *
              clear s2
              go_wp2_with (first | (at_builtin; refine wpList_append_src rfl (.tmp 51) (.tmp 55) 49 rfl 0 33 i0 _ 5 48 Tryd.underlying49 hi hz0 hz1 hz2 pkZ_cells (by decide) _ out.length (pkVals out) rfl (by exact HO2.out.alloc _) _ 1 (pkV (false, F)) rfl (by exact reads_pk w2 (false, F)) (one_pk _) hl63 hlen (Nat.zero_le _) ?_; intro v' w4 hown hgrow hat; have HOWN := Lib.hid hown; have HG := Lib.hid hgrow; have HAT := Lib.hid hat; clear hown hgrow hat) | fail)
              go_ret
              rw [HP1.out]
              refine ⟨_, rfl, ?_, fr_next HAT.out HF.out (S2.out.alloc _), sm_next HG.out HF.out (S2.out.alloc _)⟩
              rw [List.length_append, ← pkVals_snoc]; exact HOWN.out
            · have h2' : ((0 : Int) < (t.size : Int) ∧ ((pre.length : Int) == (L.length : Int)) = false) ∨ ¬ (0 : Int) < (t.size : Int) := by
                by_cases g : t.size = 0
                · exact .inr (by omega)
                · refine .inl ⟨by omega, ?_⟩
                  have hne : ls ≠ [] := fun e => h2 ⟨g, e⟩
                  have hll : pre.length < L.length := by
                    rw [HL.out, List.length_append]
                    have := List.length_pos_iff.2 hne
                    omega
                  simp; omega
              obtain ⟨m, hm1⟩ : ∃ m, m = min 183 R.size := ⟨_, rfl⟩
              have hcs : ((R.size : Int) < 183 ∧ m = R.size) ∨ (¬ (R.size : Int) < 183 ∧ m = 183) := by omega
              have hmR : (m : Int) ≤ (R.size : Int) := by omega
              have hmR2 : m ≤ R.size := by omega
              have hm183 : m ≤ 183 := by omega
              have hm0 : 0 < m := by omega
              have htm : t.size ≤ m := by omega
              have hpk := HP.out
              rw [pack_begin k' (by rw [HR.out]; exact h0) h1 h2, HR.out, ← hm1] at hpk
              have hRr : (R.extract m R.size) = (catL ls).extract (m - t.size) (catL ls).size := by rw [← HR.out, extract_behind _ _ _ htm]
              have hadv := adv_cat ls (m - t.size) (by omega)
              rw [← hRr] at hadv
              have e4 : (R.extract m R.size).size = R.size - m := by rw [ByteArray.size_extract]; omega
              have e5 : (R.extract 0 m).size = m := by rw [ByteArray.size_extract]; omega
              have hlen : (out.length + 1) * 48 ≤ 140737488355328 := by omega
              have hl63 : out.length + 1 ≤ maxLen := by unfold maxLen; omega
              have ht256 : t.size < 183 := by omega
              have HP1 := hpk; have E4 := Lib.hid e4; have HK := Lib.hid hk; have HW := Lib.hid hfew; have HADV := Lib.hid hadv
              have HP1 := Lib.hid HP1
              clear hpk e4 hk hfew hsz h0 h1 h2 hRr hadv hm1
              go_upto_region 15 with fail
              go_cut [50] (fun s50 wx => s50 = .bool false ∧ wx = wr)
              case first =>
                rcases h2' with ⟨g1, g2⟩ | g1
                all_goals (go_wp2_with fail; go_meet; exact ⟨rfl, rfl⟩)
              obtain ⟨rfl, rfl⟩ := hcut
              clear h2'
              go_upto_region 18 with fail
              go_cut [9] (fun s9 wx => s9 = .int .i64 m ∧ wx = wc)
              case first =>
                rcases hcs with ⟨hc1, rfl⟩ | ⟨hc1, rfl⟩
                all_goals (go_wp2_with fail; go_meet; exact ⟨rfl, rfl⟩)
              obtain ⟨rfl, rfl⟩ := hcut
              clear hcs
              have hc1 := conv1; have hsn := snums
              have hbig : ¬ 9223372036854775807 < 1 + m := by omega
              have hsa : ∀ a b : ByteArray, (a ++ b).size = a.size + b.size := fun a b => ByteArray.size_append
              have hw2 : IntKind.u8.wrap (t.size : Int) = (t.size : Int) := IntWalk.u8_in _ (by omega)
              have HFL := Lib.hid (fun W => filled_any (strOfNums [(t.size : Int)] ++ R.extract 0 m) W (by rw [ByteArray.size_append, snums, e5]; simp; omega))
              go_upto_region 19 with fail
              go_cut [5] (fun s5 wx => ∃ B, B = fillG (strOfNums [(t.size : Int)] ++ R.extract 0 m) ∧ wx.ownsRow 0 33 5 s5 (out.length + 1) (pkVals out ++ pkV (true, B)) ∧ (∀ b, s5.ownBlock = some b → w0.heap.size ≤ b) ∧ Same [] w0 wx)
              case first =>
                obtain ⟨B, hB⟩ : ∃ B, B = fillG (strOfNums [(t.size : Int)] ++ R.extract 0 m) := ⟨_, rfl⟩
                rw [← hB] at HFL
                have HB := Lib.hid hB
                clear hB
                go_region_law (first | (refine step_enter (o := { dst := some 70, op := _, type := _, pos := _, after := _, guard := _ }) rfl 34 #[.string (strOfNums [(t.size : Int)] ++ R.extract 0 m)] (by go_simp) _ (HFL.out _) ?_; rintro e w' ⟨rfl, hs2⟩; refine ⟨_, rfl, ?_⟩; have HS2 := Lib.hid hs2; clear hs2) | (refine step_append_src rfl (.tmp 61) (.tmp 72) 49 rfl 0 33 i0 _ 5 48 Tryd.underlying49 hi hz0 hz1 hz2 pkZ_cells (by decide) _ out.length (pkVals out) rfl (by exact own_same (S := []) HO.out (by repeat (first | exact Same.refl _ _ | refine Same.drew ?_ | refine Same.alloc ?_ _ | refine Same.trans_nil ?_ HS2.out)) (fun _ _ h => nomatch h)) _ 1 (pkV (true, B)) rfl (by exact reads_pk _ (true, B)) (one_pk _) hl63 hlen (Nat.zero_le _) ?_; intro v' w4 hown hgrow hat; have HOWN := Lib.hid hown; have HG := Lib.hid hgrow; have HAT := Lib.hid hat; clear hown hgrow hat))
                go_wp2_with fail
                go_meet
                refine ⟨B, HB.out, HOWN.out, fr_next HAT.out HF.out ?_, sm_next HG.out HF.out ?_⟩
                all_goals repeat (first | exact HS.out | refine Same.drew ?_ | refine Same.alloc ?_ _ | refine Same.trans_nil ?_ HS2.out)
              obtain ⟨B, hB, hown, hfr, hsm⟩ := hcut
              have hp1 := HP1.out
              rw [← hB] at hp1
              have HP2 := Lib.hid hp1
              clear HP1 hp1
              have HO5 := Lib.hid hown; have HF5 := Lib.hid hfr; have HS5 := Lib.hid hsm
              clear hB hown hfr hsm hc1 hsn hsa hw2 HFL hbig e5
              have hxs : ∀ x : ByteArray, x ∈ L → x.size < 1099511627776 := fun x hx => by
                have := mem_size hx; omega
              have HXS := Lib.hid hxs
              clear hxs
              go_wp2_with fail
              go_loopw [6, 7, 10] (fun s6 s7 s10 wv => ∃ (t' : ByteArray) (pre' ls' : List ByteArray) (q : Nat), L = pre' ++ ls' ∧ s6 = .int .i64 t'.size ∧ s7 = .int .i64 pre'.length ∧ s10 = .int .i64 q ∧ AdvAt ls (m - t.size) t' ls' q ∧ q ≤ 183 ∧ wv = wc) (fun _ s7 _ _ => L.length - (intOf s7).toNat)
              case atStart => exact ⟨⟨#[]⟩, pre, ls, m - t.size, HL.out, rfl, rfl, by go_num, .inl ⟨rfl, rfl⟩, by omega, by trivial⟩
              case round =>
                obtain ⟨t', pre', ls', q, hL', rfl, rfl, rfl, hadv, hq, rfl⟩ := hrel
                have hpl' : pre'.length ≤ L.length := by rw [hL']; simp
                by_cases hq0 : q = 0 ∨ ls' = []
                · have hd := hadv.done hq0
                  have hp2 := HP2.out
                  have ha2 := HADV.out
                  rw [hd] at hp2 ha2
                  simp only at hp2 ha2
                  have HP3 := Lib.hid hp2; have HA3 := Lib.hid ha2; have HL3 := Lib.hid hL'
                  have hg : ((0 : Int) < (q : Int) ∧ ¬ (pre'.length : Int) < (L.length : Int)) ∨ ¬ (0 : Int) < (q : Int) := by
                    by_cases g : q = 0
                    · exact .inr (by omega)
                    · refine .inl ⟨by omega, ?_⟩
                      rcases hq0 with h | h
                      · exact absurd h g
                      · subst h; rw [hL', List.append_nil]; omega
                  clear hd hp2 ha2 hL' hadv hq0 hq hpl'
                  rcases hg with ⟨g1, g2⟩ | g1
                  all_goals
                    go_wp2_with fail
                    go_roundw
                    case rel =>
                      refine ⟨k', t', pre', ls', out ++ [(true, B)], ⟨HL3.out, ?_, ?_, ?_⟩, ?_, rfl, rfl, ?_, HF5.out, HS5.out⟩
                      · rw [HA3.out, E4.out]; have := HK.out; omega
                      · rw [HA3.out, E4.out, List.length_append]; have := HW.out; simp only [List.length_cons, List.length_nil]; omega
                      · rw [HP3.out]; simp
                      · rw [HA3.out]
                      · rw [List.length_append, ← pkVals_snoc]; exact HO5.out
                    case measure => show (R.extract m R.size).size < R.size; rw [E4.out]; omega
                · have hqp : (0 : Int) < (q : Int) := by
                    rcases Nat.eq_zero_or_pos q with h | h
                    · exact absurd (.inl h) hq0
                    · omega
                  cases ls' with
                  | nil => exact absurd (.inr rfl) hq0
                  | cons x ls'' =>
                    have hlen' : pre'.length < L.length := by rw [hL']; simp
                    have hlt' : (pre'.length : Int) < (L.length : Int) := by omega
                    have hxz := HXS.out x (by rw [hL']; simp)
                    obtain ⟨g, o, rfl, hx0⟩ := suffix_cell HC.out hL'
                    have hx := HS5.out.cell hx0 (by simp)
                    clear hx0
                    have hL2 : L = (pre' ++ [x]) ++ ls'' := by rw [hL']; simp
                    rcases hadv with ⟨rfl, hadv⟩ | ⟨h, _⟩
                    · have HL3 := Lib.hid hL2
                      by_cases hxq : q < x.size
                      · have hxq' : (q : Int) < (x.size : Int) := by omega
                        have ha : advG (x :: ls'') q = (x.extract q x.size, ls'') := by rw [advG, if_neg (by omega), if_pos hxq]
                        have HA := Lib.hid (show AdvAt ls (m - t.size) (x.extract q x.size) ls'' 0 from .inr ⟨rfl, hadv.trans ha⟩)
                        clear hL2 hL' hadv ha hq0
                        go_wp2_with fail
                        go_roundw
                        case rel => exact ⟨x.extract q x.size, pre' ++ [x], ls'', 0, HL3.out, by rw [ByteArray.size_extract]; go_num, by simp, rfl, HA.out, by omega, by trivial⟩
                        case measure => simp [intOf]; omega
                      · have hxq' : ¬ (q : Int) < (x.size : Int) := by omega
                        have ha : advG (x :: ls'') q = advG ls'' (q - x.size) := by rw [advG, if_neg (by omega), if_neg hxq]
                        have HA := Lib.hid (show AdvAt ls (m - t.size) ⟨#[]⟩ ls'' (q - x.size) from .inl ⟨rfl, hadv.trans ha⟩)
                        clear hL2 hL' hadv ha hq0
                        go_wp2_with fail
                        go_roundw
                        case rel => exact ⟨⟨#[]⟩, pre' ++ [x], ls'', q - x.size, HL3.out, rfl, by simp, by go_num, HA.out, by omega, by trivial⟩
                        case measure => simp [intOf]; omega
                    · omega

end Go.Proofs.YtpnbhgmcfooppaaDoor
