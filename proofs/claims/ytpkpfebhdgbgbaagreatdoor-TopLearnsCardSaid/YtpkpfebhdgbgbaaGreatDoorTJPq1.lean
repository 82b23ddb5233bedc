/- The library's contracts of strings.Builder and strings.Repeat at this seat (laid by a tool of the kit, cut down). No condition. The packer's stream: taking bytes of sections (take); bytes 255 (strings.Repeat). Conditions: the sections have fewer than 2^40 bytes together. -/
import Derived.Shelf.Strings.Builder1
import Derived.Shelf.Strings.BuilderF
import Derived.Shelf.Strings.Repeat
import Derived.Test.YtpkpfebhdgbgbaaGreatDoorProg
import Derived.Test.YtpkpfebhdgbgbaaGreatDoorTJBd2
import Derived.Deep.Slices
namespace Go.Proofs
open Go.Shelf
def Tryz.lays105_ren : Go.Shelf.Ren := ⟨fun | 105 => 101 | 212 => 139 | 99 => 140 | 165 => 141 | 166 => 40 | 170 => 41 | 169 => 42 | 263 => 162 | 264 => 163 | 206 => 164 | 240 => 92 | 241 => 165 | 276 => 121 | 277 => 175 | n => n, fun | 9 => 9 | 3 => 3 | 4 => 4 | 20 => 20 | 0 => 0 | 46 => 103 | 109 => 231 | 5 => 5 | 72 => 107 | 76 => 111 | 51 => 253 | 146 => 261 | 53 => 216 | 148 => 263 | 70 => 105 | 37 => 33 | 75 => 110 | 127 => 174 | 164 => 211 | 80 => 114 | n => n, fun | n => n⟩
theorem Tryz.lays105 : Go.Proofs.Lays.n105 Tryz.prog Tryz.lays105_ren := {
  mixed := by kernel_rfl
  f99 := Tryz.func140.trans (congrArg some (by kernel_rfl))
  f105 := Tryz.func101.trans (congrArg some (by kernel_rfl))
  f165 := Tryz.func141.trans (congrArg some (by kernel_rfl))
  f166 := Tryz.func40.trans (congrArg some (by kernel_rfl))
  f169 := Tryz.func42.trans (congrArg some (by kernel_rfl))
  f170 := Tryz.func41.trans (congrArg some (by kernel_rfl))
  f206 := Tryz.func164.trans (congrArg some (by kernel_rfl))
  f212 := Tryz.func139.trans (congrArg some (by kernel_rfl))
  f240 := Tryz.func92.trans (congrArg some (by kernel_rfl))
  f241 := Tryz.func165.trans (congrArg some (by kernel_rfl))
  f263 := Tryz.func162.trans (congrArg some (by kernel_rfl))
  f264 := Tryz.func163.trans (congrArg some (by kernel_rfl))
  f276 := Tryz.func121.trans (congrArg some (by kernel_rfl))
  f277 := Tryz.func175.trans (congrArg some (by kernel_rfl))
  t0 := Tryz.underlying0
  a0 := Tryz.isAgg0
  z0 := Tryz.sizeOf0
  v0 := Tryz.zeroValue0
  t3 := Tryz.underlying3
  a3 := Tryz.isAgg3
  z3 := Tryz.sizeOf3
  v3 := Tryz.zeroValue3
  t4 := Tryz.underlying4
  a4 := Tryz.isAgg4
  z4 := Tryz.sizeOf4
  v4 := Tryz.zeroValue4
  t5 := Tryz.underlying5
  a5 := Tryz.isAgg5
  z5 := Tryz.sizeOf5
  v5 := Tryz.zeroValue5
  t9 := Tryz.underlying9
  a9 := Tryz.isAgg9
  z9 := Tryz.sizeOf9
  v9 := Tryz.zeroValue9
  t20 := Tryz.underlying20
  a20 := Tryz.isAgg20
  z20 := Tryz.sizeOf20
  v20 := Tryz.zeroValue20
  t37 := Tryz.underlying33
  a37 := Tryz.isAgg33
  z37 := Tryz.sizeOf33
  v37 := Tryz.zeroValue33
  t46 := Tryz.underlying103
  a46 := Tryz.isAgg103
  z46 := Tryz.sizeOf103
  v46 := Tryz.zeroValue103
  t51 := Tryz.underlying253
  a51 := Tryz.isAgg253
  z51 := Tryz.sizeOf253
  v51 := Tryz.zeroValue253
  t53 := Tryz.underlying216
  a53 := Tryz.isAgg216
  z53 := Tryz.sizeOf216
  v53 := Tryz.zeroValue216
  t70 := Tryz.underlying105
  a70 := Tryz.isAgg105
  z70 := Tryz.sizeOf105
  v70 := Tryz.zeroValue105
  t72 := Tryz.underlying107
  a72 := Tryz.isAgg107
  z72 := Tryz.sizeOf107
  v72 := Tryz.zeroValue107
  t75 := Tryz.underlying110
  a75 := Tryz.isAgg110
  z75 := Tryz.sizeOf110
  v75 := Tryz.zeroValue110
  t76 := Tryz.underlying111
  a76 := Tryz.isAgg111
  z76 := Tryz.sizeOf111
  v76 := Tryz.zeroValue111
  t109 := Tryz.underlying231
  a109 := Tryz.isAgg231
  z109 := Tryz.sizeOf231
  v109 := Tryz.zeroValue231
  t127 := Tryz.underlying174
  a127 := Tryz.isAgg174
  z127 := Tryz.sizeOf174
  v127 := Tryz.zeroValue174
  t146 := Tryz.underlying261
  a146 := Tryz.isAgg261
  z146 := Tryz.sizeOf261
  v146 := Tryz.zeroValue261
  t148 := Tryz.underlying263
  a148 := Tryz.isAgg263
  z148 := Tryz.sizeOf263
  v148 := Tryz.zeroValue263
  t164 := Tryz.underlying211
  a164 := Tryz.isAgg211
  z164 := Tryz.sizeOf211
  v164 := Tryz.zeroValue211 }
theorem Tryz.Builder_Extra_105 : Builder.Extra Tryz.prog Tryz.lays105_ren := {
  sizeBuilder := by kernel_rfl
  liesBuilder := by kernel_rfl
  t5 := Tryz.underlying5
  a5 := Tryz.isAgg5
  z5 := Tryz.sizeOf5
  v5 := Tryz.zeroValue5
  infoByte := by kernel_rfl
  cellsByte := by kernel_rfl
  sizeByte := by kernel_rfl
  neB5 := by decide }
open Go.RowKit Go.Lib in
theorem Tryz.sb_write (B b : Nat) (bs : List Value) (s : ByteArray) (w : World) (h : Lib.IsBuilder 107 5 B b bs w) (hlen : bs.length + s.size ≤ 140737488355328) (hBw : B ≤ w.heap.size) :
    Calls Tryz.prog 40 #[.pointer (some ⟨b, 0, none⟩), .string s] w fun e w' => e = .returned (.tuple #[.int .i64 s.size, .nilIface]) ∧ (Lib.BuilderAt 107 5 B b (.pointer (some ⟨b, 0, none⟩)) (bs ++ Lib.strCells s) w' ∧ Below B w w') :=
  Any.Builder_WriteString { Tryz.lays105 with } Tryz.Builder_Extra_105 B b bs s w h hlen hBw
open Go.RowKit Go.Lib in
theorem Tryz.sb_len (B b : Nat) (bs : List Value) (w : World) (h : Lib.IsBuilder 107 5 B b bs w) :
    Calls Tryz.prog 41 #[.pointer (some ⟨b, 0, none⟩)] w fun e w' => e = .returned (.int .i64 bs.length) ∧ w' = w := Any.Builder_Len { Tryz.lays105 with } B b bs w h
open Go.RowKit Go.Lib in
theorem Tryz.sb_string (B b : Nat) (l : List UInt8) (w : World) (h : Lib.IsBuilder 107 5 B b (Lib.byteCells l) w) (hBw : B ≤ w.heap.size) :
    Calls Tryz.prog 42 #[.pointer (some ⟨b, 0, none⟩)] w fun e w' => e = .returned (.string ⟨l.toArray⟩) ∧ Below B w w' := Any.Builder_String_any { Tryz.lays105 with } Tryz.Builder_Extra_105 B b l w h hBw
open Go.RowKit Go.Lib in
theorem Tryz.strings_Repeat (s : ByteArray) (c : Nat) (w : World) (hc : c ≤ 9223372036854775807) (hlen : s.size * c ≤ 140737488355328) :
    Calls Tryz.prog 101 #[.string s, .int .i64 c] w fun e w' => e = .returned (.string ⟨(Lib.repeatL s.data.toList c).toArray⟩) ∧ Below w.heap.size w w' := Any.strings_Repeat Tryz.lays105 Tryz.Builder_Extra_105 s c w hc hlen
end Go.Proofs
namespace Go.Proofs.YtpkpfebhdgbgbaaGreatDoor.J
open Go.RowKit
set_option linter.unusedSimpArgs false
set_option linter.unusedVariables false

theorem same_below {a w w' : World} (h : Same [] a w) (hb : Below a.heap.size w w') : Same [] a w' :=
  ⟨hb.os.trans h.os, hb.tape.trans h.tape, hb.output.trans h.output, Nat.le_trans h.size hb.size, fun k hk _ => (hb.block k hk).trans (h.block k hk (by simp))⟩
theorem same_below' {S : List Nat} {a w w' : World} (h : Same S a w) (hb : Below a.heap.size w w') : Same S a w' :=
  ⟨hb.os.trans h.os, hb.tape.trans h.tape, hb.output.trans h.output, Nat.le_trans h.size hb.size, fun k hk hS => (hb.block k hk).trans (h.block k hk hS)⟩

theorem repeat_stuff : ∀ n : Nat, (⟨(Lib.repeatL (⟨#[255]⟩ : ByteArray).data.toList n).toArray⟩ : ByteArray) = stuffOf n := fun n => by
  have h : ∀ n, Lib.repeatL ([255] : List UInt8) n = List.replicate n 255 := fun n => by
    induction n with
    | zero => rfl
    | succ n ih => rw [Lib.repeatL, ih]; rfl
  unfold stuffOf
  rw [← h n]
theorem repeat_any (n : Nat) (w : World) (hn : n ≤ 1000000) : Calls Tryz.prog 101 #[.string ⟨#[255]⟩, .int .i64 n] w (Ret (.string (stuffOf n)) w) :=
  (Tryz.strings_Repeat ⟨#[255]⟩ n w (by omega) (by show 1 * n ≤ _; omega)).mono fun e w' ⟨he, hb⟩ => ⟨by rw [he, repeat_stuff], Same.of_below hb⟩

/-- A slice of texts, apart from block b. -/
def LsAt (w : World) (b : Nat) (v : Value) (l : List ByteArray) : Prop :=
  ∃ ad c, v = .slice ad l.length c ∧ l.length ≤ c ∧ c ≤ maxLen ∧ ∀ (i : Nat) (h : i < l.length), ∃ g o, ad = some ⟨g, o, none⟩ ∧ g < b ∧ w.cell? ⟨g, o + i, none⟩ = some (.string l[i])
theorem LsAt.same {A B : World} {b : Nat} {v : Value} {l : List ByteArray} {S : List Nat} (h : LsAt A b v l) (hs : Same S A B) (hS : ∀ x, x ∈ S → x = b) : LsAt B b v l := by
  obtain ⟨ad, c, rfl, h1, h2, h3⟩ := h
  refine ⟨ad, c, rfl, h1, h2, fun i hi => ?_⟩
  obtain ⟨g, o, e1, e2, e3⟩ := h3 i hi
  exact ⟨g, o, e1, e2, hs.cell e3 (fun hm => by have : g = b := hS _ hm; omega)⟩
theorem LsAt.below {A B : World} {b N : Nat} {v : Value} {l : List ByteArray} (h : LsAt A b v l) (hs : Below N A B) (hb : b ≤ N) : LsAt B b v l := by
  obtain ⟨ad, c, rfl, h1, h2, h3⟩ := h
  refine ⟨ad, c, rfl, h1, h2, fun i hi => ?_⟩
  obtain ⟨g, o, e1, e2, e3⟩ := h3 i hi
  exact ⟨g, o, e1, e2, (World.cell?_of_block (hs.block g (by omega))).trans e3⟩
theorem LsAt.tail {w : World} {b g o c n : Nat} {x : ByteArray} {l : List ByteArray} (h : LsAt w b (.slice (some ⟨g, o, none⟩) n c) (x :: l)) : LsAt w b (sliced (some ⟨g, o, none⟩) 1 n c 1) l := by
  obtain ⟨ad, c', he, h1, h2, h3⟩ := h
  cases he
  rw [List.length_cons] at h1 ⊢
  unfold sliced
  by_cases hc : c = 1
  · rw [if_pos hc]
    exact ⟨_, _, rfl, by omega, by omega, fun i hi => by omega⟩
  · rw [if_neg hc]
    refine ⟨_, _, rfl, by omega, by omega, fun i hi => ?_⟩
    obtain ⟨g', o', e1, e2, e3⟩ := h3 (i + 1) (by rw [List.length_cons]; omega)
    cases e1
    refine ⟨g, o + 1, ?_, e2, ?_⟩
    · rw [Option.map_some, addr_add]
    · rw [Nat.add_assoc, Nat.add_comm 1 i]; exact e3
theorem LsAt.head {w : World} {b : Nat} {ad : Option Addr} {c n : Nat} {x : ByteArray} {l : List ByteArray} (h : LsAt w b (.slice ad n c) (x :: l)) : ∃ g o, ad = some ⟨g, o, none⟩ ∧ g < b ∧ n = l.length + 1 ∧ n ≤ c ∧ c ≤ maxLen ∧ w.cell? ⟨g, o, none⟩ = some (.string x) := by
  obtain ⟨ad', c', he, h1, h2, h3⟩ := h
  cases he
  obtain ⟨g, o, e1, e2, e3⟩ := h3 0 (by simp)
  exact ⟨g, o, e1, e2, rfl, h1, h2, e3⟩

/-- Block b is a stream: what is left of the section that is begun, and those behind it. -/
def StAt (w : World) (b : Nat) (t : ByteArray) (v : Value) : Prop := w.heap[b]? = some (.cells #[.string t, v] 143 (0, 0))
theorem StAt.cells {w : World} {b : Nat} {t : ByteArray} {v : Value} (h : StAt w b t v) :
    (w.cell? ⟨b, 0, none⟩ = some (.string t) ∧ w.cell? ⟨b, 1, none⟩ = some v) ∧ w.frozen? ⟨b, 0, none⟩ = false ∧ w.frozen? ⟨b, 1, none⟩ = false :=
  ⟨⟨(cell_of h _).trans rfl, (cell_of h _).trans rfl⟩, free_of h _, free_of h _⟩
theorem StAt.set0 {w : World} {b : Nat} {t : ByteArray} {v : Value} (h : StAt w b t v) (s : ByteArray) : StAt (w.setCell ⟨b, 0, none⟩ (.string s)) b s v := (set_same h _).trans rfl
theorem StAt.set1 {w : World} {b : Nat} {t : ByteArray} {v : Value} (h : StAt w b t v) (u : Value) : StAt (w.setCell ⟨b, 1, none⟩ u) b t u := (set_same h _).trans rfl
theorem StAt.below {A B : World} {b N : Nat} {t : ByteArray} {v : Value} (h : StAt A b t v) (hs : Below N A B) (hb : b < N) : StAt B b t v := (hs.block b hb).trans h
theorem StAt.same {A B : World} {b : Nat} {t : ByteArray} {v : Value} {S : List Nat} (h : StAt A b t v) (hs : Same S A B) (hb : b ∉ S) : StAt B b t v := hs.heap h hb

/-- So many bytes are taken. -/
def advT (t : ByteArray) (l : List ByteArray) (m : Nat) : ByteArray × List ByteArray := if m < t.size then (t.extract m t.size, l) else advG l (m - t.size)
theorem extract_over' (a b : ByteArray) (n : Nat) (h : a.size ≤ n) : (a ++ b).extract 0 n = a ++ b.extract 0 (n - a.size) := by
  rw [ByteArray.extract_append, Nat.zero_sub]
  congr 1
  apply ByteArray.ext
  rw [ByteArray.data_extract]
  have h1 : a.data.size = a.size := rfl
  apply Array.ext
  · simp only [Array.size_extract]; omega
  · intro j g1 g2; simp only [Array.getElem_extract, Nat.zero_add]
theorem advT_part {t : ByteArray} {l : List ByteArray} {m : Nat} (h : m < t.size) : advT t l m = (t.extract m t.size, l) := if_pos h
theorem advT_whole {t : ByteArray} {l : List ByteArray} {m : Nat} (h : ¬ m < t.size) : advT t l m = advG l (m - t.size) := if_neg h
theorem advT_pop {x : ByteArray} {l : List ByteArray} {m : Nat} (h : 0 < m) : advT ⟨#[]⟩ (x :: l) m = advT x l m := by
  rw [advT_whole (by show ¬ m < 0; omega), show m - (⟨#[]⟩ : ByteArray).size = m from rfl]
  rw [advG, if_neg (by omega)]; rfl
theorem adv_zero (l : List ByteArray) : advG l 0 = (⟨#[]⟩, l) := by
  cases l with
  | nil => rfl
  | cons x l => unfold advG; rw [if_pos rfl]

theorem builder_same {T e base B : Nat} {bs : List Value} {A W : World} {S : List Nat} (h : Lib.IsBuilder T e base B bs A) (hs : Same S A W) (hS : ∀ x, x ∈ S → x < base) : Lib.IsBuilder T e base B bs W := by
  have key : ∀ p, Lib.BuilderAt T e base B p bs A → Lib.BuilderAt T e base B p bs W := fun p ⟨h1, v, h2, h3, h4⟩ =>
    ⟨h1, v, hs.heap h2 (fun hm => by have := hS _ hm; omega), own_same h3 hs (fun k hk hm => by have := (h3.lt k hk).1; have := hS _ hm; omega), h4⟩
  exact h.imp (key _) (key _)
theorem take_go {acc acc' : List UInt8} {t1 t2 s1 : ByteArray} {l1 : List ByteArray} {m k : Nat} (hm : m = 183 - acc.length) (hk : k = min m t1.size) (hs : s1 = t1.extract 0 k) (ht : t2 = t1.extract k t1.size) (ha : acc' = acc ++ s1.data.toList) (hf : acc.length ≤ 183) (h0 : t2.size = 0) :
    (⟨acc'.toArray⟩ : ByteArray) ++ (t2 ++ catL l1).extract 0 (183 - acc'.length) = ⟨acc.toArray⟩ ++ (t1 ++ catL l1).extract 0 m ∧ advT t2 l1 (183 - acc'.length) = advT t1 l1 m := by
  have hz : t2.size = t1.size - k := by rw [ht, ByteArray.size_extract]; omega
  have hkt : k = t1.size := by omega
  have hs1 : s1 = t1 := by rw [hs, hkt, extract_whole]
  have ht2 : t2 = ⟨#[]⟩ := empty_of h0
  have hal : acc'.length = acc.length + t1.size := by rw [ha, hs1, List.length_append, Array.length_toList]; rfl
  have hacc : (⟨acc'.toArray⟩ : ByteArray) = ⟨acc.toArray⟩ ++ t1 := by
    apply ByteArray.ext
    rw [ByteArray.data_append, ha, hs1]
    apply Array.toList_inj.1
    simp
  have hm' : 183 - acc'.length = m - t1.size := by omega
  rw [hm', ht2]
  constructor
  · rw [hacc, nil_append, extract_over' _ _ _ (by omega : t1.size ≤ m), ByteArray.append_assoc]
  · rw [advT_whole (m := m - t1.size) (by show ¬ _ < 0; omega), advT_whole (m := m) (by omega)]
    rfl
theorem take_stop {acc acc' : List UInt8} {t1 t2 s1 : ByteArray} {l1 : List ByteArray} {m k : Nat} (hm : m = 183 - acc.length) (hk : k = min m t1.size) (hs : s1 = t1.extract 0 k) (ht : t2 = t1.extract k t1.size) (ha : acc' = acc ++ s1.data.toList) (hf : acc.length ≤ 183) (h0 : ¬ (t2.size = 0 ∧ l1 ≠ [] ∧ acc'.length < 183)) :
    (⟨acc'.toArray⟩ : ByteArray) = ⟨acc.toArray⟩ ++ (t1 ++ catL l1).extract 0 m ∧ (t2, l1) = advT t1 l1 m := by
  have hz : t2.size = t1.size - k := by rw [ht, ByteArray.size_extract]; omega
  by_cases h1 : t2.size = 0
  · obtain ⟨x1, x2⟩ := take_go (l1 := l1) hm hk hs ht ha hf h1
    have ht2 : t2 = ⟨#[]⟩ := empty_of h1
    rw [← x1, ← x2, ht2]
    by_cases h2 : l1 = []
    · subst h2
      refine ⟨?_, by rw [advT_whole (by show ¬ _ < 0; omega)]; rfl⟩
      rw [nil_append]
      have : (catL []).extract 0 (183 - acc'.length) = ⟨#[]⟩ := empty_of (by rw [ByteArray.size_extract]; show min _ 0 - 0 = 0; omega)
      rw [this, append_nil]
    · have h3 : ¬ acc'.length < 183 := fun h => h0 ⟨h1, h2, h⟩
      rw [show 183 - acc'.length = 0 by omega]
      refine ⟨?_, by rw [advT_whole (by show ¬ _ < 0; omega)]; exact (adv_zero l1).symm⟩
      rw [show ((⟨#[]⟩ : ByteArray) ++ catL l1).extract 0 0 = ⟨#[]⟩ from ByteArray.extract_same, append_nil]
  · have hkm : k = m := by omega
    have hacc : (⟨acc'.toArray⟩ : ByteArray) = ⟨acc.toArray⟩ ++ s1 := by
      apply ByteArray.ext
      rw [ByteArray.data_append, ha]
      apply Array.toList_inj.1
      simp
    refine ⟨?_, ?_⟩
    · rw [hacc, hs, hkm, extract_left _ _ _ (by omega)]
    · rw [advT_part (by omega), ht, hkm]
theorem empty_is (s : ByteArray) (h : s.size = 0) : s.toList.isEmpty = true ∧ (!s.toList.isEmpty) = false := by
  obtain rfl := empty_of h
  have h1 : (⟨#[]⟩ : ByteArray).toList = [] := by rw [ByteArray.toList_eq]
  rw [h1]; exact ⟨rfl, rfl⟩
/-- What the stream and the builder are, where the code goes round. -/
structure TkAt (w0 w' : World) (b B : Nat) (T : ByteArray) (fin : ByteArray × List ByteArray) (acc : List UInt8) (t : ByteArray) (l : List ByteArray) (v : Value) : Prop where
  st : StAt w' b t v
  ls : LsAt w' b v l
  bu : Lib.IsBuilder 107 5 w0.heap.size B (Lib.byteCells acc) w'
  few : acc.length < 183
  size : acc.length + (t ++ catL l).size < 1099511627776
  text : (⟨acc.toArray⟩ : ByteArray) ++ (t ++ catL l).extract 0 (183 - acc.length) = T
  fin : advT t l (183 - acc.length) = fin
  same : Same [b] w0 w'
def stJ (w0 : World) (b B : Nat) (T : ByteArray) (fin : ByteArray × List ByteArray) (a : Act) (w' : World) : Prop :=
  ∃ (acc : List UInt8) (t : ByteArray) (l : List ByteArray) (v : Value) (u2 u3 u6 u7 u8 u9 u10 u11 u12 u13 u14 u15 u16 u17 u18 u19 u20 u21 u22 u23 u24 u25 u26 u27 u28 u29 u30 u31 u32 u33 u34 u35 u36 u37 u38 u39 u40 u41 u42 u43 u44 u45 u46 u47 u48 u49 u50 u51 u52 u53 u54 u55 u56 u57 u58 u59 u60 u61 u62 u63 u64 u65 u66 u67 u68 u69 u70 u71 u72 u73 u74 u75 u76 u77 u78 u79 u80 : Value), TkAt w0 w' b B T fin acc t l v ∧ a = { tmps := #[.pointer (some ⟨b, 0, none⟩), .int .i64 183, u2, u3, .string ⟨#[]⟩, .pointer (some ⟨B, 0, none⟩), u6, u7, u8, u9, u10, u11, u12, u13, u14, u15, u16, u17, u18, u19, u20, u21, u22, u23, u24, u25, u26, u27, u28, u29, u30, u31, u32, u33, u34, u35, u36, u37, u38, u39, u40, u41, u42, u43, u44, u45, u46, u47, u48, u49, u50, u51, u52, u53, u54, u55, u56, u57, u58, u59, u60, u61, u62, u63, u64, u65, u66, u67, u68, u69, u70, u71, u72, u73, u74, u75, u76, u77, u78, u79, u80], defers := [] }
def stM (b : Nat) (w' : World) : Nat := (match w'.cell? ⟨b, 1, none⟩ with | some (.slice _ n _) => 2 * n | _ => 0) + (match w'.cell? ⟨b, 0, none⟩ with | some (.string s) => if s.size = 0 then 0 else 1 | _ => 0)

def TakeP (w : World) (b : Nat) (t : ByteArray) (l : List ByteArray) (e : Ending) (w' : World) : Prop :=
  e = .returned (.string ((t ++ catL l).extract 0 183)) ∧ ∃ v', StAt w' b (advT t l 183).1 v' ∧ LsAt w' b v' (advT t l 183).2 ∧ Same [b] w w'

set_option maxRecDepth 100000 in
set_option maxHeartbeats 8000000 in
theorem stake_any {w : World} {b : Nat} {t : ByteArray} {v : Value} {l : List ByteArray} (hst : StAt w b t v) (hls : LsAt w b v l) (hz : (t ++ catL l).size < 1099511627776) :
    Calls Tryz.prog 102 #[.pointer (some ⟨b, 0, none⟩), .int .i64 183] w (TakeP w b t l) := by
  have hb := heap_lt hst
  have HST := Lib.hid hst; have HLS := Lib.hid hls; have HZ := Lib.hid hz
  clear hst hls hz
  go_enter Tryz.func102, Tryz.ntmps102
  go_wp2
  refine wp_scope_one 0 (stJ w b w.heap.size ((t ++ catL l).extract 0 183) (advT t l 183)) (fun _ w' => stM b w') rfl ?_ ?_
  · simp only [wpAll]
    go_wp2_with fail
    refine ⟨[], t, l, v, _, _, _, _, _, _, _, _, _, _, _, _, _, _, _, _, _, _, _, _, _, _, _, _, _, _, _, _, _, _, _, _, _, _, _, _, _, _, _, _, _, _, _, _, _, _, _, _, _, _, _, _, _, _, _, _, _, _, _, _, _, _, _, _, _, _, _, _, _, _, _, _, _, _, _, _, _, ?_, rfl⟩
    have hs : Same [] w (w.alloc (.cells #[.pointer none, .slice none 0 0] 107)) := (Same.refl [] w).alloc _
    refine ⟨HST.out.same hs (by simp), HLS.out.same hs (by simp), ?_, by decide, by have := HZ.out; show 0 + _ < _; omega, ?_, rfl, hs.mono (by simp)⟩
    · exact .inl ⟨Nat.le_refl _, .slice none 0 0, heap_alloc_new w _, World.ownsRow_nil _ _ _ _, by simp [Value.ownBlock]⟩
    · exact nil_append _
  · obtain ⟨B, hB⟩ : ∃ B, B = w.heap.size := ⟨_, rfl⟩
    rw [← hB]
    generalize hT : (t ++ catL l).extract 0 183 = T
    generalize hfin : advT t l 183 = fin
    have HT := Lib.hid hT; have HFI := Lib.hid hfin; have HB := Lib.hid hB
    clear hT hfin HST HLS HZ hB
    rintro a w1 ⟨acc, t, l, v, u2, u3, u6, u7, u8, u9, u10, u11, u12, u13, u14, u15, u16, u17, u18, u19, u20, u21, u22, u23, u24, u25, u26, u27, u28, u29, u30, u31, u32, u33, u34, u35, u36, u37, u38, u39, u40, u41, u42, u43, u44, u45, u46, u47, u48, u49, u50, u51, u52, u53, u54, u55, u56, u57, u58, u59, u60, u61, u62, u63, u64, u65, u66, u67, u68, u69, u70, u71, u72, u73, u74, u75, u76, u77, u78, u79, u80, ⟨hst, hls, hbu, hfew, hz, htx, hfi, hsm⟩, rfl⟩
    have HBU := Lib.hid hbu; have HTX := Lib.hid htx; have HF := Lib.hid hfi; have HS := Lib.hid hsm; have HST := Lib.hid hst; have HLS := Lib.hid hls
    have hbw : b ≠ B := by have := HB.out; omega
    obtain ⟨ad, c, rfl, hlc, hcm, hl3⟩ := id hls
    clear hbu htx hfi hsm hst hls hl3
    obtain ⟨⟨c0, c1⟩, f0, f1⟩ := HST.out.cells
    have hmu : stM b w1 = 2 * l.length + (if t.size = 0 then 0 else 1) := by unfold stM; rw [c0, c1]
    have HMU := Lib.hid hmu
    clear hmu
    have hcase : (t.size = 0 ∧ ∃ x l', l = x :: l') ∨ (t.size ≠ 0 ∨ (t.size = 0 ∧ l = [])) := by
      by_cases h : t.size = 0
      · cases l with
        | nil => exact .inr (.inr ⟨h, rfl⟩)
        | cons x l' => exact .inl ⟨h, x, l', rfl⟩
      · exact .inr (.inl h)
    rcases hcase with ⟨ht0, x, l', rfl⟩ | hor
    case' inl =>
      obtain rfl := empty_of ht0
      obtain ⟨g, o, rfl, hgb, q1, q2, q3, hx⟩ := HLS.out.head
      clear q1 q2 q3
      have hll : (0 : Int) < ((x :: l').length : Int) := by rw [List.length_cons]; omega
      have hll1 : (1 : Int) ≤ ((x :: l').length : Int) := by rw [List.length_cons]; omega
      generalize hn : (x :: l').length = n at c1 HST HLS hlc hll hll1
      have HN := Lib.hid hn
      clear hn ht0
      go_upto_region 3 with fail
      go_region
      go_upto_region 4 with fail
      have hls0 : LsAt w1 b (sliced (some ⟨g, o, none⟩) 1 n c 1) l' := HLS.out.tail
      have hVe : sliced (some ⟨g, o, none⟩) 1 n c 1 = Value.slice (if c = 1 then some ⟨g, o, none⟩ else some ⟨g, o + 1, none⟩) (n - 1) (c - 1) := by
        unfold sliced; split <;> simp [addr_add]
      rw [hVe] at hls0
      generalize Value.slice (if c = 1 then some ⟨g, o, none⟩ else some ⟨g, o + 1, none⟩) (n - 1) (c - 1) = V at hls0 ⊢
      obtain ⟨ad1, c1', rfl, _, _, _⟩ := id hls0
      have hsw : Same [b] w1 ((w1.setCell ⟨b, 0, none⟩ (.string x)).setCell ⟨b, 1, none⟩ (.slice ad1 l'.length c1')).drew := ((((Same.refl [b] w1).setCell (by simp) _).setCell (by simp) _)).drew
      have hst1 : StAt ((w1.setCell ⟨b, 0, none⟩ (.string x)).setCell ⟨b, 1, none⟩ (.slice ad1 l'.length c1')).drew b x (.slice ad1 l'.length c1') := (HST.out.set0 x).set1 _
      generalize ((w1.setCell ⟨b, 0, none⟩ (.string x)).setCell ⟨b, 1, none⟩ (.slice ad1 l'.length c1')).drew = W1 at hsw hst1 ⊢
      have HST1 := Lib.hid hst1
      have HLS1 := Lib.hid (hls0.same hsw (by simp))
      have HBU1 := Lib.hid (builder_same HBU.out hsw (by simpa using hb))
      have HS1 := Lib.hid (HS.out.trans hsw (fun y hy _ => hy))
      have HTX1 := Lib.hid (show (⟨acc.toArray⟩ : ByteArray) ++ (x ++ catL l').extract 0 (183 - acc.length) = T by have := HTX.out; rw [nil_append] at this; exact this)
      have HF1 := Lib.hid (show advT x l' (183 - acc.length) = fin by rw [← HF.out, advT_pop (by omega)])
      have HMU1 := Lib.hid (show l' ≠ [] → 2 * l'.length + 1 ≤ stM b w1 from fun _ => by rw [HMU.out, List.length_cons]; simp; omega)
      have HZ1 := Lib.hid (show acc.length + (x ++ catL l').size < 1099511627776 by rw [nil_append] at hz; exact hz)
      obtain ⟨t1, ht1⟩ : ∃ t1, t1 = x := ⟨_, rfl⟩
      obtain ⟨l1, hl1⟩ : ∃ l1, l1 = l' := ⟨_, rfl⟩
      subst ht1 hl1
      clear hls0 hVe hsw hst1 c0 c1 f0 f1 HBU HTX HF HS HST HLS HMU HN hll hll1 hlc hx hz
    case' inr =>
      go_upto_region 2 with fail
      go_cut [19] (fun s19 wx => s19 = .bool false ∧ w1 = wx)
      case' first =>
        rcases hor with ht0 | ⟨ht0, hln⟩
        · obtain ⟨n1, n2⟩ := nonempty t (by omega)
          go_wp2_with fail
          go_meet
          exact ⟨rfl, rfl⟩
        · obtain ⟨n1, n2⟩ := empty_is t ht0
          have hl0 : ¬ (0 : Int) < (l.length : Int) := by rw [hln]; simp
          go_wp2_with fail
          go_meet
          exact ⟨rfl, rfl⟩
      obtain ⟨rfl, rfl⟩ := hcut
      go_upto_region 4 with fail
      have HST1 := HST; have HLS1 := HLS; have HBU1 := HBU; have HS1 := HS; have HTX1 := HTX; have HF1 := HF
      have HMU1 := Lib.hid (show l ≠ [] → 2 * l.length + 1 ≤ stM b w1 from fun hne => by
        rw [HMU.out]
        rcases hor with h | ⟨_, h⟩
        · rw [if_neg h]; exact Nat.le_refl _
        · exact absurd h hne)
      have HZ1 := Lib.hid hz
      clear hor
      obtain ⟨ad1, hads⟩ : ∃ ad1, ad1 = ad := ⟨_, rfl⟩
      obtain ⟨c1', hcs⟩ : ∃ c1', c1' = c := ⟨_, rfl⟩
      obtain ⟨t1, ht1⟩ : ∃ t1, t1 = t := ⟨_, rfl⟩
      obtain ⟨l1, hl1⟩ : ∃ l1, l1 = l := ⟨_, rfl⟩
      obtain ⟨W1, hW1⟩ : ∃ W1, W1 = w1 := ⟨_, rfl⟩
      subst ht1 hl1 hads hcs
      rw [← hW1] at HST1 HLS1 HBU1 HS1 ⊢
      clear hW1 c0 c1 f0 f1 HBU HTX HF HS HST HLS HMU hlc hcm hz
    all_goals
      have hz9 := HZ1.out
      have hsz9 : (t1 ++ catL l1).size = t1.size + (catL l1).size := ByteArray.size_append
      have hbl : B ≤ W1.heap.size := by rw [HB.out]; exact HS1.out.size
      obtain ⟨m, hm⟩ : ∃ m, m = 183 - acc.length := ⟨_, rfl⟩
      obtain ⟨k, hk⟩ : ∃ k, k = min m t1.size := ⟨_, rfl⟩
      have hk1 : k ≤ t1.size := by omega
      have hk1' : (k : Int) ≤ (t1.size : Int) := by omega
      have hmin : min (183 - (acc.length : Int)) (t1.size : Int) = (k : Int) := by omega
      have hw1 : IntKind.i64.wrap (183 - (acc.length : Int)) = 183 - (acc.length : Int) := IntWalk.i64_in _ (by omega)
      have HM := Lib.hid hm; have HK := Lib.hid hk
      obtain ⟨⟨c0, c1⟩, f0, f1⟩ := HST1.out.cells
      have hlb := fun W (h : Lib.IsBuilder 107 5 w.heap.size B (Lib.byteCells acc) W) => Tryz.sb_len w.heap.size B (Lib.byteCells acc) W h
      rw [Lib.byteCells_length] at hlb
      have HLB := Lib.hid hlb
      clear hlb hz9 hsz9 hm hk
      go_cut [6] (fun s6 wx => s6 = .int .i64 k ∧ W1.drew = wx)
      case first =>
        go_region_with (go_at_call 41; (with_reducible refine (HLB.out _ (builder_same HBU1.out ((Same.refl [] W1).drew) (by simp))).mono ?_); rintro e w' ⟨rfl, rfl⟩)
        all_goals (go_wp2_with fail; go_meet; exact ⟨rfl, rfl⟩)
      obtain ⟨rfl, hwc⟩ := hcut
      have hsd : Same [] W1 wc := by rw [← hwc]; exact (Same.refl [] W1).drew
      have HST2 := Lib.hid (HST1.out.same hsd (by simp)); have HLS2 := Lib.hid (HLS1.out.same hsd (by simp)); have HBU2 := Lib.hid (builder_same HBU1.out hsd (by simp)); have HS2 := Lib.hid (HS1.out.trans_nil hsd)
      have hbl2 : B ≤ wc.heap.size := Nat.le_trans hbl hsd.size
      clear hwc hsd HST1 HLS1 HBU1 HS1 c0 c1 f0 f1 hbl hmin hw1
      obtain ⟨⟨c0, c1⟩, f0, f1⟩ := HST2.out.cells
      have hkm : k ≤ m := by have := HK.out; omega
      have hez : (t1.extract 0 k).size = k := by rw [ByteArray.size_extract]; omega
      have hm183 : acc.length + m = 183 := by have := HM.out; omega
      have HWR := Lib.hid (Tryz.sb_write w.heap.size B (Lib.byteCells acc) (t1.extract 0 k) wc HBU2.out (by rw [Lib.byteCells_length, hez]; omega) (by rw [← HB.out]; exact hbl2))
      obtain ⟨s1, hs1⟩ : ∃ s1, s1 = t1.extract 0 k := ⟨_, rfl⟩
      obtain ⟨t2, ht2⟩ : ∃ t2, t2 = t1.extract k t1.size := ⟨_, rfl⟩
      have ht2z : t2.size = t1.size - k := by rw [ht2, ByteArray.size_extract]; omega
      have HS1E := Lib.hid hs1; have HT2E := Lib.hid ht2; have HT2Z := Lib.hid ht2z; have HEZ := Lib.hid hez
      rw [← hs1] at HWR
      have hsl1 : t1.extract 0 k = s1 := hs1.symm
      have hsl2 : t1.extract k t1.size = t2 := ht2.symm
      clear hs1 ht2 ht2z hez
      go_wp2_with fail
      (with_reducible refine HWR.out.mono ?_)
      rintro e w3 ⟨rfl, hbu3, hb3⟩
      have HST3 := Lib.hid (HST2.out.below hb3 hb)
      have HLS3 := Lib.hid (HLS2.out.below hb3 (by omega))
      have hs3 := same_below' HS2.out hb3
      have hcells : Lib.byteCells acc ++ Lib.strCells s1 = Lib.byteCells (acc ++ s1.data.toList) := by simp [Lib.byteCells, Lib.strCells]
      rw [hcells] at hbu3
      have HBU3 := Lib.hid (show Lib.IsBuilder 107 5 w.heap.size B (Lib.byteCells (acc ++ s1.data.toList)) w3 from .inr hbu3)
      have HS3 := Lib.hid hs3
      obtain ⟨acc', hacc⟩ : ∃ acc', acc' = acc ++ s1.data.toList := ⟨_, rfl⟩
      rw [← hacc] at HBU3
      have hal : acc'.length = acc.length + k := by rw [hacc, List.length_append, Array.length_toList]; have := HEZ.out; rw [← HS1E.out] at this; exact congrArg _ this
      have HAC := Lib.hid hacc; have HAL := Lib.hid hal
      clear hbu3 hb3 hs3 hcells hacc c0 c1 f0 f1 hsl1 HWR HST2 HLS2 HBU2 HS2 hal hbl2
      obtain ⟨⟨c0, c1⟩, f0, f1⟩ := HST3.out.cells
      go_upto_region 7 with fail
      have hsw : Same [b] w3 (w3.setCell ⟨b, 0, none⟩ (.string t2)) := (Same.refl [b] w3).setCell (by simp) _
      have hst4 : StAt (w3.setCell ⟨b, 0, none⟩ (.string t2)) b t2 (.slice ad1 l1.length c1') := HST3.out.set0 t2
      generalize w3.setCell ⟨b, 0, none⟩ (.string t2) = W4 at hsw hst4 ⊢
      have HST4 := Lib.hid hst4
      have HLS4 := Lib.hid (HLS3.out.same hsw (by simp))
      have HBU4 := Lib.hid (builder_same HBU3.out hsw (by simpa using hb))
      have HS4 := Lib.hid (HS3.out.trans hsw (fun y hy _ => hy))
      have hbl4 : B ≤ W4.heap.size := by rw [HB.out]; exact HS4.out.size
      clear hsw hst4 c0 c1 f0 f1 HST3 HLS3 HBU3 HS3 hsl2
      obtain ⟨⟨c0, c1⟩, f0, f1⟩ := HST4.out.cells
      have hlb := Tryz.sb_len w.heap.size B (Lib.byteCells acc') W4 HBU4.out
      rw [Lib.byteCells_length] at hlb
      have HLB4 := Lib.hid hlb
      clear hlb HLB
      by_cases hgo : t2.size = 0 ∧ l1 ≠ [] ∧ acc'.length < 183
      · obtain ⟨h1, h2, h3⟩ := hgo
        obtain ⟨n1, n2⟩ := empty_is t2 h1
        have hl0 : (0 : Int) < (l1.length : Int) := by have := List.length_pos_iff.2 h2; omega
        have h3' : (acc'.length : Int) < 183 := by omega
        go_wp2_with (go_at_call 41; (with_reducible refine HLB4.out.mono ?_); rintro e w' ⟨rfl, rfl⟩)
        obtain ⟨x1, x2⟩ := take_go HM.out HK.out HS1E.out HT2E.out HAC.out (by omega) h1
        have hfew' := hfew
        go_step3
        refine ⟨rfl, ⟨acc', t2, l1, .slice ad1 l1.length c1', _, _, _, _, _, _, _, _, _, _, _, _, _, _, _, _, _, _, _, _, _, _, _, _, _, _, _, _, _, _, _, _, _, _, _, _, _, _, _, _, _, _, _, _, _, _, _, _, _, _, _, _, _, _, _, _, _, _, _, _, _, _, _, _, _, _, _, _, _, _, _, _, _, _, _, _, _, ⟨HST4.out, HLS4.out, HBU4.out, h3, ?_, ?_, ?_, HS4.out⟩, rfl⟩, ?_⟩
        · have q1 := HZ1.out; have q2 := HAL.out; have q3 := HT2Z.out
          rw [ByteArray.size_append] at q1 ⊢; omega
        · rw [x1]; have := HTX1.out; rw [← HM.out] at this; exact this
        · rw [x2]; have := HF1.out; rw [← HM.out] at this; exact this
        · have q1 := HMU1.out h2
          have q2 := HST4.out.cells.1
          have q3 : stM b w' = 2 * l1.length := by unfold stM; rw [q2.1, q2.2]; simp [h1]
          omega
      · go_cut [79] (fun s79 wx => s79 = .bool false ∧ W4 = wx)
        case first =>
          have hor : t2.size ≠ 0 ∨ (t2.size = 0 ∧ l1 = []) ∨ (t2.size = 0 ∧ l1 ≠ [] ∧ ¬ acc'.length < 183) := by
            by_cases h1 : t2.size = 0
            · by_cases h2 : l1 = []
              · exact .inr (.inl ⟨h1, h2⟩)
              · exact .inr (.inr ⟨h1, h2, fun h3 => hgo ⟨h1, h2, h3⟩⟩)
            · exact .inl h1
          rcases hor with h1 | ⟨h1, h2⟩ | ⟨h1, h2, h3⟩
          · obtain ⟨n1, n2⟩ := nonempty t2 (by omega)
            go_wp2_with fail
            go_meet
            exact ⟨rfl, rfl⟩
          · obtain ⟨n1, n2⟩ := empty_is t2 h1
            have hl0 : ¬ (0 : Int) < (l1.length : Int) := by rw [h2]; simp
            go_wp2_with fail
            go_meet
            exact ⟨rfl, rfl⟩
          · obtain ⟨n1, n2⟩ := empty_is t2 h1
            have hl0 : (0 : Int) < (l1.length : Int) := by have := List.length_pos_iff.2 h2; omega
            have h3' : ¬ (acc'.length : Int) < 183 := by omega
            go_wp2_with (go_at_call 41; (with_reducible refine HLB4.out.mono ?_); rintro e w' ⟨rfl, rfl⟩)
            go_meet
            exact ⟨congrArg Value.bool (decide_eq_false (by omega)), rfl⟩
        obtain ⟨rfl, hwc⟩ := hcut
        subst hwc
        have HSB := Lib.hid (Tryz.sb_string w.heap.size B acc' W4 HBU4.out (by rw [← HB.out]; exact hbl4))
        go_wp2_with fail
        (with_reducible refine HSB.out.mono ?_)
        rintro e w5 ⟨rfl, hb5⟩
        have HB5 := Lib.hid hb5
        clear hb5
        have hend : (⟨acc'.toArray⟩ : ByteArray) = T ∧ (t2, l1) = fin := by
          have q1 := HTX1.out; have q2 := HF1.out
          rw [← HM.out] at q1 q2
          rw [← q1, ← q2]
          exact take_stop HM.out HK.out HS1E.out HT2E.out HAC.out (by omega) hgo
        obtain ⟨q1, q2⟩ := hend
        have Q1 := Lib.hid q1; have Q2 := Lib.hid q2
        clear q1 q2 hgo
        go_wp2_with fail
        simp only [jump1]
        go_ret
        refine ⟨by rw [HT.out, ← Q1.out]; rfl, .slice ad1 l1.length c1', ?_, ?_, same_below' HS4.out HB5.out⟩
        · rw [HFI.out, ← Q2.out]; exact HST4.out.below HB5.out hb
        · rw [HFI.out, ← Q2.out]; exact HLS4.out.below HB5.out (by omega)

end Go.Proofs.YtpkpfebhdgbgbaaGreatDoor.J
