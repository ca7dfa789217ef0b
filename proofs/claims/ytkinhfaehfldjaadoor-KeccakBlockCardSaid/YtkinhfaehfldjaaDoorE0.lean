/- A slice of one-cell elements that lies in a block of its own: the law of append, whatever is appended. No program's function in sight. -/
import Derived.Test.YtkinhfaehfldjaaDoorC2
namespace Go.Proofs.YtkinhfaehfldjaaDoor
open Go.ChangeShapes Go.WideShapes Go.ChangeAt Go.RowKit

/-- The slice 'a', of capacity c, holds these values, in the block r, whose cells are of type t; nil where there is no such block (then r is g). -/
def RestV (W : World) (a : Option Addr) (c r g : Nat) (t : TypeId) (vs : List Value) : Prop :=
  (a = none ∧ c = 0 ∧ vs = [] ∧ r = g) ∨
  (r ≠ g ∧ ∃ o cs, a = some ⟨r, o, none⟩ ∧ HB W r cs t ∧ o + c ≤ cs.size ∧ vs.length ≤ c ∧ ∀ i, i < vs.length → cs[o + i]? = vs[i]?)
theorem RestV.frm {S : Nat → Prop} {W W' : World} {a : Option Addr} {c r g : Nat} {t : TypeId} {vs : List Value} (h : RestV W a c r g t vs) (hf : Frm S W W') (hr : r ≠ g → ¬ S r) : RestV W' a c r g t vs := by
  rcases h with h | ⟨hne, o, cs, hv, hb, h1, h2, h3⟩
  · exact .inl h
  · exact .inr ⟨hne, o, cs, hv, hf.hb hb (hr hne), h1, h2, h3⟩
theorem RestV.nil (W : World) (g : Nat) (t : TypeId) : RestV W none 0 g g t [] := .inl ⟨rfl, rfl, rfl, rfl⟩
theorem RestV.cell {W : World} {a : Option Addr} {c r g : Nat} {t : TypeId} {vs : List Value} (h : RestV W a c r g t vs) (i : Nat) (hi : i < vs.length) : ∃ o, a = some ⟨r, o, none⟩ ∧ W.cell? ⟨r, o + i, none⟩ = vs[i]? := by
  rcases h with ⟨_, _, rfl, _⟩ | ⟨hne, o, cs, hv, hb, h1, h2, h3⟩
  · simp at hi
  · exact ⟨o, hv, by rw [hb.cell]; exact h3 i hi⟩

theorem run_append_restV {W : World} {a : Option Addr} {c r g : Nat} {t ts tx : TypeId} {vs news : List Value} (h : RestV W a c r g t vs) (hg : g < W.heap.size) (hu : Tryd.prog.underlying ts = some (.slice t))
    {i : TypeInfo} {z : Value} (hi : Tryd.prog.info? t = some i) (hz : i.zero = some z) (hzs : z.cells.size = 1) (hs1 : i.size = 1) (hby : i.bytes ≤ 16)
    (x : Value) (n : Nat) (hsrc : Src Tryd.prog 1 tx x n news W) (hsz : vs.length + n ≤ 8796093022208) (ty : TypeId) :
    ∃ a' c' W' r', (Builtin.append_ #[ts, tx] ty #[.slice a vs.length c, x]).run Tryd.prog W = .ok (.slice a' (vs.length + n) c') W' ∧ RestV W' a' c' r' g t (vs ++ news) ∧ (r' = r ∨ W.heap.size ≤ r') ∧ Frm (fun k => k = r ∧ r ≠ g) W W' := by
  have hnl : news.length = n := by have := hsrc.newsLen; omega
  have hsrc' : Src Tryd.prog i.size tx x n news W := by rw [hs1]; exact hsrc
  have grow : ∀ (old : Nat) (base : Option Addr), old < vs.length + n →
      (Builtin.firstCells i.size vs.length (.slice base vs.length old)).run Tryd.prog W.drew = .ok vs.toArray W.drew →
      ∃ a' c' W' r', (Builtin.append_ #[ts, tx] ty #[.slice base vs.length old, x]).run Tryd.prog W = .ok (.slice a' (vs.length + n) c') W' ∧ RestV W' a' c' r' g t (vs ++ news) ∧ W.heap.size = r' ∧ Frm (fun k => k = r ∧ r ≠ g) W W' := by
    intro old base hold hfc
    have hbb : (vs.length + n) * i.bytes ≤ 140737488355328 := Nat.le_trans (Nat.mul_le_mul hsz hby) (by decide)
    have hr := run_append_grow_src (P := Tryd.prog) W ts tx ty t i z hu hi hz base vs.length old vs hfc x n news hsrc' hold (by omega) (growslice_fits hold hbb)
    refine ⟨_, _, _, W.heap.size, hr, ?_, rfl, ?_⟩
    · refine .inr ⟨by omega, 0, _, rfl, HB.new W.drew _ _, ?_, ?_, ?_⟩
      · have hge := grownCap_ge W (vs.length + n) old t
        simp only [Array.size_append, List.size_toArray, size_zeroCells, hzs, List.length_append, hnl]
        omega
      · rw [List.length_append, hnl]; exact grownCap_ge W _ old t
      · intro j hj
        rw [Nat.zero_add, Array.getElem?_append_left (by simpa using hj)]
        simp
    · exact Frm.of_below (((Below.refl _ _).drew).alloc (Nat.le_refl _) _)
  rcases h with ⟨rfl, rfl, rfl, rfl⟩ | ⟨hne, o, cs, rfl, hb, h1, h2, h3⟩
  · by_cases h0 : n = 0
    · have hn : news = [] := List.eq_nil_of_length_eq_zero (by omega)
      subst h0
      refine ⟨none, 0, W, r, ?_, .inl ⟨rfl, rfl, by simp [hn], rfl⟩, .inl rfl, Frm.refl _ _⟩
      have hc := hsrc'.cells
      have hl := hsrc'.len W
      rw [hn] at hc
      rcases hsrc'.kind with ⟨e', hk⟩ | hk <;> simp [Builtin.append_, run_underlying hu, run_underlying hk, sizeOf, typeInfo, hi, hl, hc]
    · obtain ⟨a', c', W', r', e1, e2, e3, e4⟩ := grow 0 none (by simp; omega) (by simpa using run_firstCells_none W.drew i.size 0 0 0)
      exact ⟨a', c', W', r', e1, e2, .inr (Nat.le_of_eq e3), e4⟩
  · by_cases hroom : vs.length + n ≤ c
    · have hr := run_append_room_src (P := Tryd.prog) W ts tx ty t i hu hi r o vs.length c x n news hsrc' hroom
        (fun j hj => by
          rw [hnl] at hj
          rw [hb.cell, hs1, Nat.mul_one]; simp; omega)
        (fun j _ => hb.free _)
      rw [hs1, Nat.mul_one] at hr
      obtain ⟨cs', g1, g2, g3, g4⟩ := HB.many news (o + vs.length) W cs hb (by omega)
      refine ⟨_, _, _, r, hr, .inr ⟨hne, o, cs', rfl, g1, by omega, by rw [List.length_append, hnl]; exact hroom, ?_⟩, .inl rfl, frm_setCells _ _ _ _ ⟨rfl, hne⟩⟩
      intro j hj
      rw [List.length_append, hnl] at hj
      by_cases hjx : j < vs.length
      · rw [g4 _ (.inl (by omega)), List.getElem?_append_left hjx]; exact h3 j hjx
      · obtain ⟨m, rfl⟩ : ∃ m, j = vs.length + m := ⟨j - vs.length, by omega⟩
        rw [List.getElem?_append_right (by omega), Nat.add_sub_cancel_left, ← Nat.add_assoc]
        exact g3 m (by omega)
    · have holds : (Builtin.firstCells i.size vs.length (.slice (some ⟨r, o, none⟩) vs.length c)).run Tryd.prog W.drew = .ok vs.toArray W.drew := by
        refine run_firstCells_some (P := Tryd.prog) W.drew i.size vs.length ⟨r, o, none⟩ vs.length c vs (by simp [hs1]) ?_
        intro j u hu
        have hj : j < vs.length := (List.getElem?_eq_some_iff.1 hu).1
        rw [Addr.add_lit, World.cell?_drew, hb.cell, h3 j hj, ← hu]
      obtain ⟨a', c', W', r', e1, e2, e3, e4⟩ := grow c (some ⟨r, o, none⟩) (by omega) holds
      exact ⟨a', c', W', r', e1, e2, .inr (Nat.le_of_eq e3), e4⟩

/-- THE OPERATION, for the walk. -/
theorem wpList_append_restV {ops : Array Oper} {rest : List Oper} {op : Oper} {ac : Act} {Q : Exit → Act → World → Prop} {W : World} (hgd : op.guard = none) (sl x : Operand) (ts tx t : TypeId)
    (ho : op.op = .call { callee := .builtin .append, args := #[sl, x], argTypes := #[ts, tx] })
    (a : Option Addr) (c r g : Nat) (vs news : List Value) (m : Nat) (hm : m = vs.length) (hs : ac.eval sl = .slice a m c) (h : RestV W a c r g t vs) (hg : g < W.heap.size) (hu : Tryd.prog.underlying ts = some (.slice t))
    {i : TypeInfo} {z : Value} (hi : Tryd.prog.info? t = some i) (hz : i.zero = some z) (hzs : z.cells.size = 1) (hs1 : i.size = 1) (hby : i.bytes ≤ 16)
    (v : Value) (n : Nat) (hx : ac.eval x = v) (hsrc : Src Tryd.prog 1 tx v n news W) (hsz : vs.length + n ≤ 8796093022208)
    (hk : ∀ a' c' W' r', RestV W' a' c' r' g t (vs ++ news) → (r' = r ∨ W.heap.size ≤ r') → Frm (fun k => k = r ∧ r ≠ g) W W' → wpList Tryd.prog ops Q rest (ac.put op.dst (.slice a' (m + n) c')) W') : wpList Tryd.prog ops Q (op :: rest) ac W := by
  subst hm
  refine wpList_plain hgd fun K hK => ?_
  obtain ⟨a', c', W', r', hr, h2, h3, h4⟩ := run_append_restV h hg hu hi hz hzs hs1 hby v n hsrc hsz op.type
  unfold Oper.wp execOp
  simp only [ho, resolve, invoke, builtin, Sem.run_bind, Sem.run_pure, Result.andThen_ok, List.map_toArray, List.map_cons, List.map_nil, hs, hx, hr]
  exact hK _ _ (hk a' c' W' r' h2 h3 h4)
theorem src_one {ts t : TypeId} {g c : Nat} {v : Value} {w : World} (hu : Tryd.prog.underlying ts = some (.slice t)) (h : HB w g #[v] t) (h1 : v.oneCell' = true) : Src Tryd.prog 1 ts (.slice (some ⟨g, 0, none⟩) 1 c) 1 [v] w :=
  Src.ofSlice w hu ⟨g, 0, none⟩ 1 c [v] rfl (fun j u hj => by
    have hj0 : j = 0 := by
      have := (List.getElem?_eq_some_iff.1 hj).1
      simpa using this
    subst hj0
    have := h.cell 0
    rw [Addr.add_lit]
    simpa using this.trans (by simpa using hj)) (fun u hu => by obtain rfl : u = v := (by simpa using hu); exact h1)
end Go.Proofs.YtkinhfaehfldjaaDoor
