/- The walk of (*Hash).Sum. -/
import Derived.Test.YtkinhfaehfldjaaDoorA6
namespace Go.Proofs.YtkinhfaehfldjaaDoor
open Go.RowKit

def or8 (x y : Nat) : Nat := (x ||| y) % 256
theorem bits_or8 (x y : Nat) : bits .or .u8 (x : Int) (y : Int) = ((or8 x y : Nat) : Int) := by
  show IntKind.u8.wrap ((BitVec.ofInt 8 (x : Int) ||| BitVec.ofInt 8 (y : Int)).toNat : Int) = _
  have h : ∀ n : Nat, (BitVec.ofInt 8 (n : Int)).toNat = n % 2 ^ 8 := fun n => by rw [BitVec.ofInt_natCast, BitVec.toNat_ofNat]
  rw [BitVec.toNat_or, h, h, ← Nat.or_mod_two_pow, IntKind.wrap_u8]
  unfold or8
  omega
def pad0 (xs : List Nat) : List Nat := (xs ++ List.replicate (136 - xs.length) 0).set xs.length 1
def padN (xs : List Nat) : List Nat := (pad0 xs).set 135 (or8 (nth (pad0 xs) 135) 128)
def outStep (A : List Nat) (i : Nat) (o : List Nat) : List Nat := o.set i ((nth A (i / 8) >>> (8 * (i % 8))) % 256)
def outK (A : List Nat) (k : Nat) : List Nat := iter (outStep A) (zeros 32) k
def outN (A : List Nat) : List Nat := outK A 32
/-- what Sum answers -/
def sumN (L xs : List Nat) : List Nat := outN (blockN L (padN xs))
theorem outK_len (A : List Nat) (k : Nat) : (outK A k).length = 32 := (iter_len (fun _ _ => by simp [outStep]) _ k).trans (by simp [zeros])
theorem pad0_len (xs : List Nat) (h : xs.length < 136) : (pad0 xs).length = 136 := by simp [pad0]; omega
theorem padN_len (xs : List Nat) (h : xs.length < 136) : (padN xs).length = 136 := by simp [padN, pad0_len xs h]
theorem octets_set (L : List Nat) (i n : Nat) : (octets L).setIfInBounds i (.int .u8 (n : Int)) = octets (L.set i n) := by
  simp [octets, List.map_set]
theorem octets_size (L : List Nat) : (octets L).size = L.length := by simp [octets]
theorem octets_one (L : List Nat) : (octets L).all (·.oneCell') = true := by simp [octets, Value.oneCell']
theorem HB.octet {W : World} {g : Nat} {L : List Nat} {t : TypeId} (h : HB W g (octets L) t) (i : Nat) (hi : i < L.length) : W.cell? ⟨g, i, none⟩ = some (.int .u8 ((nth L i : Nat) : Int)) := by
  rw [h.cell, octets_get L i hi]
theorem HB.setOctet {W : World} {g : Nat} {L : List Nat} {t : TypeId} (h : HB W g (octets L) t) (i n : Nat) : HB (W.setCell ⟨g, i, none⟩ (.int .u8 (n : Int))) g (octets (L.set i n)) t := by
  rw [← octets_set]; exact h.set i _
theorem nth_set (L : List Nat) (i j n : Nat) : nth (L.set i n) j = if i = j ∧ j < L.length then n else nth L j := by
  simp only [nth, List.getD_eq_getElem?_getD, List.getElem?_set]
  by_cases h : i = j
  · subst h
    by_cases hl : i < L.length <;> simp [hl]
  · simp [h]
theorem padN_oct (xs : List Nat) (h : xs.length < 136) (ho : ∀ i, i < xs.length → nth xs i < 256) : ∀ i, i < (padN xs).length → nth (padN xs) i < 256 := by
  intro i _
  have h0 : ∀ j, nth (pad0 xs) j < 256 := by
    intro j
    unfold pad0
    rw [nth_set]
    split
    · omega
    · by_cases hj : j < xs.length
      · rw [nth_append_left _ _ _ hj]; exact ho j hj
      · obtain ⟨m, rfl⟩ : ∃ m, j = xs.length + m := ⟨j - xs.length, by omega⟩
        rw [nth_append_right]
        simp only [nth, List.getD_eq_getElem?_getD, List.getElem?_replicate]
        split <;> simp
  unfold padN
  rw [nth_set]
  split
  · unfold or8; omega
  · exact h0 i

theorem run_copy_rest {W : World} {a : Option Addr} {c r g : Nat} {xs : List Nat} (h : Rest W a c r g xs) (hx : xs.length < 136) (m : Nat) (hm : HB W m (octets (zeros 136)) 5) (ty : TypeId) :
    (Builtin.copy_ #[37, 37] ty #[.slice (some ⟨m, 0, none⟩) 136 136, .slice a xs.length c]).run Tryd.prog W = .ok (.int .i64 (xs.length : Int)) (W.setCells m 0 (octets xs).toList) := by
  obtain ⟨i, hi, _, hs, _⟩ := info5
  have hmin : Nat.min xs.length 136 = xs.length := Nat.min_eq_left (by omega)
  have hst := run_storeCells_cells (P := Tryd.prog) m 0 (octets xs).toList 0 W
    (fun j hj => by
      have hj' : j < xs.length := by simpa [octets] using hj
      simp only [Nat.zero_add]
      rw [hm.octet j (by simp [zeros]; omega)]; rfl)
    (fun j _ => hm.free _) (fun v hv => (Array.all_eq_true_iff_forall_mem.1 (octets_one xs)) v (by simpa using hv))
  have hfc : (Builtin.firstCells 1 xs.length (.slice a xs.length c)).run Tryd.prog W = .ok (octets xs).toList.toArray W := by
    rcases h with ⟨rfl, rfl, rfl, rfl⟩ | ⟨hne, o, cs, rfl, hb, h1, h2, h3⟩
    · simpa [octets] using run_firstCells_none W 1 0 0 0
    · refine run_firstCells_some (P := Tryd.prog) W 1 xs.length ⟨r, o, none⟩ xs.length c (octets xs).toList (by simp [octets]) ?_
      intro j u hu
      have hj : j < xs.length := by
        have := (List.getElem?_eq_some_iff.1 hu).1
        simpa [octets] using this
      rw [Addr.add_lit, hb.cell, h3 j hj, ← hu]
      have := octets_get xs j hj
      simpa using this.symm
  simp only [Nat.add_zero] at hst
  simp [Builtin.copy_, run_underlying Tryd.underlying37, Builtin.lenOf, hmin, sizeOf, typeInfo, hi, hs, hfc, hst, goInt]
theorem wpList_copy_rest {ops : Array Oper} {rest : List Oper} {op : Oper} {ac : Act} {Q : Exit → Act → World → Prop} {W : World} (hgd : op.guard = none) (sl x : Operand)
    (ho : op.op = .call { callee := .builtin .copy, args := #[sl, x], argTypes := #[37, 37] })
    (a : Option Addr) (c r g : Nat) (xs : List Nat) (m : Nat) (hm : HB W m (octets (zeros 136)) 5) (hs : ac.eval sl = .slice (some ⟨m, 0, none⟩) 136 136) (h : Rest W a c r g xs) (hx : xs.length < 136) (hy : ac.eval x = .slice a xs.length c)
    (hk : wpList Tryd.prog ops Q rest (ac.put op.dst (.int .i64 (xs.length : Int))) (W.setCells m 0 (octets xs).toList)) : wpList Tryd.prog ops Q (op :: rest) ac W := by
  refine wpList_plain hgd fun K hK => ?_
  have hr := run_copy_rest h hx m hm op.type
  unfold Oper.wp execOp
  simp only [ho, resolve, invoke, builtin, Sem.run_bind, Sem.run_pure, Result.andThen_ok, List.map_toArray, List.map_cons, List.map_nil, hs, hy, hr]
  exact hK _ _ hk
theorem HB.copied {W : World} {m : Nat} {xs : List Nat} (h : HB W m (octets (zeros 136)) 5) (hx : xs.length < 136) : HB (W.setCells m 0 (octets xs).toList) m (octets (xs ++ List.replicate (136 - xs.length) 0)) 5 := by
  obtain ⟨cs', h1, h2, h3, h4⟩ := HB.many (octets xs).toList 0 W _ h (by simp [octets, zeros]; omega)
  have e : cs' = octets (xs ++ List.replicate (136 - xs.length) 0) := by
    refine Array.ext_getElem? fun i => ?_
    have hl : (octets xs).toList.length = xs.length := by simp [octets]
    by_cases hi : i < xs.length
    · have := h3 i (by omega)
      rw [Nat.zero_add] at this
      rw [this, octets_get _ _ (by simp; omega), nth_append_left _ _ _ hi, Array.getElem?_toList, octets_get _ _ hi]
    · rw [h4 i (.inr (by omega))]
      simp only [octets, zeros, List.getElem?_toArray, List.getElem?_map, List.getElem?_append_right (show xs.length ≤ i by omega), List.getElem?_replicate]
      by_cases h5 : i < 136
      · rw [if_pos h5, if_pos (by omega)]
      · rw [if_neg h5, if_neg (by omega)]
  rwa [e] at h1
theorem made_octets (n : Nat) : madeCells (Value.int .u8 0).cells n = octets (zeros n) := by
  apply Array.ext
  · simp [madeCells, octets, zeros]
  · intro i h1 h2
    simp [madeCells, octets, zeros, Value.cells, Nat.mod_one]
theorem run_make136 (W : World) : (Instr.makeSlice 37 (.int .i64 136) (.int .i64 136)).run Tryd.prog W = .ok (.slice (some ⟨W.heap.size, 0, none⟩) 136 136) (W.alloc (.cells (octets (zeros 136)) 5)) := by
  obtain ⟨i, hi, hz, hs, hb⟩ := info5
  have hr := run_make (P := Tryd.prog) W 37 5 i (.int .u8 0) Tryd.underlying37 hi hz .i64 .i64 136 136 (by omega) (by omega) (by rw [hb]; omega) (by omega)
  rw [hs, made_octets] at hr
  exact hr
end Go.Proofs.YtkinhfaehfldjaaDoor
