/- Bytes that a hash holds back: a slice of bytes somewhere in a block of its own; appending to it, cutting it. -/
import Derived.Test.YtkinhfaehfldjaaDoorA3
import Derived.Deep.AppendSrc
import Derived.Deep.MidRow
import Derived.Deep.Upon
namespace Go.Proofs.YtkinhfaehfldjaaDoor
open Go.RowKit

def bytesOf (s : ByteArray) : List Nat := s.data.toList.map UInt8.toNat
theorem bytesOf_length (s : ByteArray) : (bytesOf s).length = s.size := by simp [bytesOf]
theorem bytesOf_lt (s : ByteArray) (i : Nat) (h : i < (bytesOf s).length) : nth (bytesOf s) i < 256 := by
  have h' : i < s.data.toList.length := by simpa [bytesOf] using h
  have e : nth (bytesOf s) i = (s.data.toList[i]).toNat := by
    simp [nth, bytesOf, List.getElem?_eq_getElem h']
  rw [e]; exact UInt8.toNat_lt _
theorem octets_bytes (s : ByteArray) : byteCells s = (octets (bytesOf s)).toList := by
  simp [byteCells, octets, bytesOf]
theorem octets_get (l : List Nat) (i : Nat) (h : i < l.length) : (octets l)[i]? = some (.int .u8 ((nth l i : Nat) : Int)) := by
  simp [octets, nth, List.getElem?_eq_getElem h]
theorem nth_append_left (a b : List Nat) (i : Nat) (h : i < a.length) : nth (a ++ b) i = nth a i := by
  simp [nth, List.getElem?_append_left h]
theorem nth_append_right (a b : List Nat) (i : Nat) : nth (a ++ b) (a.length + i) = nth b i := by
  simp [nth, List.getElem?_append_right]
theorem nth_take (a : List Nat) (n i : Nat) (h : i < n) : nth (a.take n) i = nth a i := by
  simp [nth, List.getElem?_take, h]
theorem nth_drop (a : List Nat) (n i : Nat) : nth (a.drop n) i = nth a (n + i) := by
  simp [nth, List.getElem?_drop]

theorem HB.many {g : Nat} {t : TypeId} : ∀ (vs : List Value) (o : Nat) (W : World) (cs : Array Value), HB W g cs t → o + vs.length ≤ cs.size →
    ∃ cs', HB (W.setCells g o vs) g cs' t ∧ cs'.size = cs.size ∧ (∀ i, i < vs.length → cs'[o + i]? = vs[i]?) ∧ (∀ i, i < o ∨ o + vs.length ≤ i → cs'[i]? = cs[i]?)
  | [], o, W, cs, h, _ => ⟨cs, h, rfl, fun i hi => by simp at hi, fun i _ => rfl⟩
  | v :: vs, o, W, cs, h, hl => by
    simp only [List.length_cons] at hl
    obtain ⟨cs', h1, h2, h3, h4⟩ := HB.many vs (o + 1) (W.setCell ⟨g, o, none⟩ v) (cs.setIfInBounds o v) (h.set o v) (by simp; omega)
    refine ⟨cs', h1, by simpa using h2, fun i hi => ?_, fun i hi => ?_⟩
    · cases i with
      | zero =>
        have := h4 o (.inl (by omega))
        simp only [Nat.add_zero, List.getElem?_cons_zero]
        rw [this]
        simp [Array.getElem?_setIfInBounds, show o < cs.size by omega]
      | succ i =>
        have := h3 i (by simpa using hi)
        rw [show o + (i + 1) = o + 1 + i by omega, this]; rfl
    · have := h4 i (by simp only [List.length_cons] at hi; omega)
      rw [this, Array.getElem?_setIfInBounds, if_neg (by simp only [List.length_cons] at hi; omega)]

/-- Only blocks of S, of those that were there, may differ. -/
structure Frm (S : Nat → Prop) (W W' : World) : Prop where
  os : W'.os = W.os
  tape : W'.tape = W.tape
  output : W'.output = W.output
  size : W.heap.size ≤ W'.heap.size
  block : ∀ k, k < W.heap.size → ¬ S k → W'.heap[k]? = W.heap[k]?
theorem Frm.hb {S : Nat → Prop} {W W' : World} {g : Nat} {cs : Array Value} {t : TypeId} (h : Frm S W W') (hb : HB W g cs t) (hg : ¬ S g) : HB W' g cs t := (h.block g hb.lt hg).trans hb
theorem Frm.refl (S : Nat → Prop) (W : World) : Frm S W W := ⟨rfl, rfl, rfl, Nat.le_refl _, fun _ _ _ => rfl⟩
theorem Frm.trans {S : Nat → Prop} {a b c : World} (h : Frm S a b) (k : Frm S b c) : Frm S a c :=
  ⟨k.os.trans h.os, k.tape.trans h.tape, k.output.trans h.output, Nat.le_trans h.size k.size, fun i hi hs => (k.block i (Nat.lt_of_lt_of_le hi h.size) hs).trans (h.block i hi hs)⟩
theorem Frm.of_below {S : Nat → Prop} {a b : World} (h : Below a.heap.size a b) : Frm S a b := ⟨h.os, h.tape, h.output, h.size, fun i hi _ => h.block i hi⟩
theorem Frm.mono {S T : Nat → Prop} {a b : World} (h : Frm S a b) (hst : ∀ k, k < a.heap.size → S k → T k) : Frm T a b := ⟨h.os, h.tape, h.output, h.size, fun i hi hs => h.block i hi (fun x => hs (hst i hi x))⟩
theorem Frm.below {S : Nat → Prop} {B : Nat} {w a b : World} (h : Frm S a b) (hw : Below B w a) (hB : B ≤ w.heap.size) (hS : ∀ k, S k → B ≤ k) : Below B w b :=
  ⟨h.os.trans hw.os, h.tape.trans hw.tape, h.output.trans hw.output, Nat.le_trans hw.size h.size, fun k hk =>
    (h.block k (Nat.lt_of_lt_of_le (Nat.lt_of_lt_of_le hk hB) hw.size) (fun hs => absurd (hS k hs) (by omega))).trans (hw.block k hk)⟩
theorem setCells_facts (g : Nat) : ∀ (vs : List Value) (o : Nat) (W : World), (W.setCells g o vs).tape = W.tape ∧ (W.setCells g o vs).heap.size = W.heap.size
  | [], _, _ => ⟨rfl, rfl⟩
  | v :: vs, o, W => by
    obtain ⟨h1, h2⟩ := setCells_facts g vs (o + 1) (W.setCell ⟨g, o, none⟩ v)
    exact ⟨h1, h2.trans (size_setCell _ _ _)⟩
theorem frm_setCells {W : World} (g o : Nat) (vs : List Value) (S : Nat → Prop) (hg : S g) : Frm S W (W.setCells g o vs) :=
  ⟨World.os_setCells W g o vs, (setCells_facts g vs o W).1, World.output_setCells W g o vs, Nat.le_of_eq (setCells_facts g vs o W).2.symm,
   fun k hk hs => World.heap_setCells_other W g o vs hk (fun e => hs (e ▸ hg))⟩
theorem frm_setCell {W : World} (p : Addr) (v : Value) (S : Nat → Prop) (hg : S p.block) : Frm S W (W.setCell p v) :=
  ⟨rfl, rfl, rfl, Nat.le_of_eq (size_setCell _ _ _).symm, fun k _ hs => heap_setCell_other W p k v (fun e => hs (e ▸ hg))⟩

/-- The slice 'a', of xs.length bytes and capacity c, holds the bytes xs, in the block r; nil where there is no such block (then r is g). -/
def Rest (W : World) (a : Option Addr) (c r g : Nat) (xs : List Nat) : Prop :=
  (a = none ∧ c = 0 ∧ xs = [] ∧ r = g) ∨
  (r ≠ g ∧ ∃ o cs, a = some ⟨r, o, none⟩ ∧ HB W r cs 5 ∧ o + c ≤ cs.size ∧ xs.length ≤ c ∧ ∀ i, i < xs.length → cs[o + i]? = some (.int .u8 ((nth xs i : Nat) : Int)))
theorem Rest.frm {S : Nat → Prop} {W W' : World} {a : Option Addr} {c r g : Nat} {xs : List Nat} (h : Rest W a c r g xs) (hf : Frm S W W') (hr : r ≠ g → ¬ S r) : Rest W' a c r g xs := by
  rcases h with h | ⟨hne, o, cs, hv, hb, h1, h2, h3⟩
  · exact .inl h
  · exact .inr ⟨hne, o, cs, hv, hf.hb hb (hr hne), h1, h2, h3⟩

theorem run_append_rest {W : World} {a : Option Addr} {c r g : Nat} {xs : List Nat} (h : Rest W a c r g xs) (hg : g < W.heap.size) (s : ByteArray) (hsz : xs.length + s.size ≤ 140737488355328) (ty : TypeId) :
    ∃ a' c' W' r', (Builtin.append_ #[37, 9] ty #[.slice a xs.length c, .string s]).run Tryd.prog W = .ok (.slice a' (xs.length + s.size) c') W' ∧ Rest W' a' c' r' g (xs ++ bytesOf s) ∧ (r' = r ∨ W.heap.size ≤ r') ∧ Frm (fun k => k = r ∧ r ≠ g) W W' := by
  have hi : ∃ i, Tryd.prog.info? 5 = some i ∧ i.zero = some (.int .u8 0) ∧ i.size = 1 ∧ i.bytes = 1 := ⟨_, rfl, rfl, rfl, rfl⟩
  obtain ⟨i, hi, hz, hs1, hby⟩ := hi
  have hsrc : ∀ w : World, Src Tryd.prog i.size 9 (.string s) s.size (byteCells s) w := fun w => by rw [hs1]; exact Src.ofString w Tryd.underlying9 s
  have grow : ∀ (old : Nat) (base : Option Addr) (olds : List Value), old < xs.length + s.size → olds = (octets xs).toList →
      (Builtin.firstCells i.size xs.length (.slice base xs.length old)).run Tryd.prog W.drew = .ok olds.toArray W.drew →
      ∃ a' c' W' r', (Builtin.append_ #[37, 9] ty #[.slice base xs.length old, .string s]).run Tryd.prog W = .ok (.slice a' (xs.length + s.size) c') W' ∧ Rest W' a' c' r' g (xs ++ bytesOf s) ∧ W.heap.size = r' ∧ Frm (fun k => k = r ∧ r ≠ g) W W' := by
    intro old base olds hold holds hfc
    have hr := run_append_grow_src (P := Tryd.prog) W 37 9 ty 5 i (.int .u8 0) Tryd.underlying37 hi hz base xs.length old olds hfc (.string s) s.size (byteCells s) (hsrc W) hold (by omega) (by rw [hby]; exact growslice_fits hold (by omega))
    refine ⟨_, _, _, W.heap.size, hr, ?_, rfl, ?_⟩
    · refine .inr ⟨by omega, 0, _, rfl, HB.new W.drew _ _, ?_, ?_, ?_⟩
      · have hge := grownCap_ge W (xs.length + s.size) old 5
        have hz1 : (Value.int IntKind.u8 0).cells.size = 1 := rfl
        have ho : olds.length = xs.length := by rw [holds]; simp [octets]
        simp only [Array.size_append, List.size_toArray, size_zeroCells, hz1, List.length_append, byteCells_length, ho]
        omega
      · rw [List.length_append, bytesOf_length]; exact grownCap_ge W _ old 5
      · intro j hj
        have e1 : (olds ++ byteCells s).toArray = octets (xs ++ bytesOf s) := by
          rw [holds, octets_bytes]; simp [octets]
        rw [Nat.zero_add, e1, Array.getElem?_append_left (by simpa [octets] using hj)]
        exact octets_get _ _ hj
    · exact Frm.of_below (((Below.refl _ _).drew).alloc (Nat.le_refl _) _)
  rcases h with ⟨rfl, rfl, rfl, rfl⟩ | ⟨hne, o, cs, rfl, hb, h1, h2, h3⟩
  · by_cases h0 : s.size = 0
    · have hn : bytesOf s = [] := List.eq_nil_of_length_eq_zero (by rw [bytesOf_length]; exact h0)
      refine ⟨none, 0, W, r, ?_, .inl ⟨rfl, rfl, by simp [hn], rfl⟩, .inl rfl, Frm.refl _ _⟩
      have hb : byteCells s = [] := List.eq_nil_of_length_eq_zero (by rw [byteCells_length]; exact h0)
      have hc := (hsrc W).cells
      have hl := (hsrc W).len W
      rw [h0, hb] at hc
      rw [h0] at hl
      simp [Builtin.append_, run_underlying Tryd.underlying37, run_underlying Tryd.underlying9, sizeOf, typeInfo, hi, hl, hc, h0]
    · obtain ⟨a', c', W', r', e1, e2, e3, e4⟩ := grow 0 none [] (by simp; omega) rfl (by simpa using run_firstCells_none W.drew i.size 0 0 0)
      exact ⟨a', c', W', r', e1, e2, .inr (Nat.le_of_eq e3), e4⟩
  · by_cases hroom : xs.length + s.size ≤ c
    · have hr := run_append_room_src (P := Tryd.prog) W 37 9 ty 5 i Tryd.underlying37 hi r o xs.length c (.string s) s.size (byteCells s) (hsrc W) hroom
        (fun j hj => by
          rw [byteCells_length] at hj
          rw [hb.cell, hs1, Nat.mul_one]; simp; omega)
        (fun j _ => hb.free _)
      rw [hs1, Nat.mul_one] at hr
      obtain ⟨cs', g1, g2, g3, g4⟩ := HB.many (byteCells s) (o + xs.length) W cs hb (by rw [byteCells_length]; omega)
      refine ⟨_, _, _, r, hr, .inr ⟨hne, o, cs', rfl, g1, by omega, by rw [List.length_append, bytesOf_length]; exact hroom, ?_⟩, .inl rfl, frm_setCells _ _ _ _ ⟨rfl, hne⟩⟩
      intro j hj
      rw [List.length_append, bytesOf_length] at hj
      by_cases hjx : j < xs.length
      · rw [g4 _ (.inl (by omega)), nth_append_left _ _ _ hjx]; exact h3 j hjx
      · obtain ⟨m, rfl⟩ : ∃ m, j = xs.length + m := ⟨j - xs.length, by omega⟩
        rw [nth_append_right, ← Nat.add_assoc, g3 m (by rw [byteCells_length]; omega), octets_bytes]
        have := octets_get (bytesOf s) m (by rw [bytesOf_length]; omega)
        simpa using this
    · have holds : (Builtin.firstCells i.size xs.length (.slice (some ⟨r, o, none⟩) xs.length c)).run Tryd.prog W.drew = .ok (octets xs).toList.toArray W.drew := by
        refine run_firstCells_some (P := Tryd.prog) W.drew i.size xs.length ⟨r, o, none⟩ xs.length c (octets xs).toList (by simp [octets, hs1]) ?_
        intro j u hu
        have hj : j < xs.length := by
          have := (List.getElem?_eq_some_iff.1 hu).1
          simpa [octets] using this
        rw [Addr.add_lit, World.cell?_drew, hb.cell, h3 j hj, ← hu]
        have := octets_get xs j hj
        simpa using this.symm
      obtain ⟨a', c', W', r', e1, e2, e3, e4⟩ := grow c (some ⟨r, o, none⟩) (octets xs).toList (by omega) rfl holds
      exact ⟨a', c', W', r', e1, e2, .inr (Nat.le_of_eq e3), e4⟩
/-- THE OPERATION, for the walk. -/
theorem wpList_append_rest {ops : Array Oper} {rest : List Oper} {op : Oper} {ac : Act} {Q : Exit → Act → World → Prop} {W : World} (hgd : op.guard = none) (sl x : Operand)
    (ho : op.op = .call { callee := .builtin .append, args := #[sl, x], argTypes := #[37, 9] })
    (a : Option Addr) (c r g : Nat) (xs : List Nat) (hs : ac.eval sl = .slice a xs.length c) (h : Rest W a c r g xs) (hg : g < W.heap.size) (s : ByteArray) (hx : ac.eval x = .string s)
    (hsz : xs.length + s.size ≤ 140737488355328)
    (hk : ∀ a' c' W' r', Rest W' a' c' r' g (xs ++ bytesOf s) → (r' = r ∨ W.heap.size ≤ r') → Frm (fun k => k = r ∧ r ≠ g) W W' → wpList Tryd.prog ops Q rest (ac.put op.dst (.slice a' (xs.length + s.size) c')) W') : wpList Tryd.prog ops Q (op :: rest) ac W := by
  refine wpList_plain hgd fun K hK => ?_
  obtain ⟨a', c', W', r', hr, h2, h3, h4⟩ := run_append_rest h hg s hsz op.type
  unfold Oper.wp execOp
  simp only [ho, resolve, invoke, builtin, Sem.run_bind, Sem.run_pure, Result.andThen_ok, List.map_toArray, List.map_cons, List.map_nil, hs, hx, hr]
  exact hK _ _ (hk a' c' W' r' h2 h3 h4)
end Go.Proofs.YtkinhfaehfldjaaDoor
