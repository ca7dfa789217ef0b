/- Words for the laws over states: quiet steps under a guard; a state that came in, read. -/
import Derived.Test.YtkinhfaehfldjaaDoorC0
import Derived.Test.YtkinhfaehfldjaaDoorR3
namespace Go.Proofs.YtkinhfaehfldjaaDoor
open Go.ChangeShapes Go.WideShapes Go.ChangeAt Go.RowKit
section
variable {P : Program} {ops : Array Oper} {C : World → Prop}
theorem wpQuietG_val {Q : Act → Prop} {a : Act} {o : Oper} {rest : List Oper} (hw : Region.wanted o (yielded ops a.tmps) = true) (v : Value) (h : ∀ W, C W → (execOp a.eval o).run P W = .ok (.value v) W)
    (hk : wpQuiet P ops C Q rest (a.put o.dst v)) : wpQuiet P ops C Q (o :: rest) a := by
  unfold wpQuiet
  rw [if_pos hw]
  refine ⟨v, fun W hW => ?_, hk⟩
  unfold Oper.quietAt
  rw [h W hW]
  exact ⟨rfl, rfl⟩
theorem wpQuietG_call {Q : Act → Prop} {a : Act} {o : Oper} {rest : List Oper} (hw : Region.wanted o (yielded ops a.tmps) = true) (v : Value) (f : FuncId) (args : Array Value) (he : ∀ W, (execOp a.eval o).run P W = .ok (.enter f args) W)
    (hc : ∀ W, C W → Calls P f args W (fun e w' => e = .returned v ∧ C w'))
    (hk : wpQuiet P ops C Q rest (a.put o.dst v)) : wpQuiet P ops C Q (o :: rest) a := by
  unfold wpQuiet
  rw [if_pos hw]
  refine ⟨v, fun W hW => ?_, hk⟩
  unfold Oper.quietAt
  rw [he W]
  exact ⟨rfl, hc W hW⟩
theorem wpQuietG_row {Q : Act → Prop} {a : Act} {o : Oper} {rest : List Oper} (hw : Region.wanted o (yielded ops a.tmps) = true) (ty : TypeId) (x : Operand) (ho : o.op = .load ty x)
    (g : Nat) (hx : a.eval x = .pointer (some ⟨g, 0, none⟩)) (t : TypeId) (cs : Array Value) (d : TypeDesc) (hg : ∀ W, C W → HB W g cs t)
    (hu : P.underlying ty = some d) (hd : (match d with | .struct _ | .array _ _ => true | _ => false) = true) (hi : (P.info? ty).map (·.size) = some cs.size)
    (hk : wpQuiet P ops C Q rest (a.put o.dst (.agg cs))) : wpQuiet P ops C Q (o :: rest) a := by
  refine wpQuietG_val hw _ (fun W hW => ?_) hk
  unfold execOp
  simp only [ho, hx, Instr.loadAt, Instr.sureAddr, Sem.run_bind, Sem.run_pure, Result.andThen_ok, run_loadVar_row W g t ty cs (0, 0) d (hg W hW).heap hu hd hi]
end

/-- A state that came in by value: 25 words of 64 bits. -/
theorem open_state {H : Type} {enc : TypeId × Value → H} {W : World} {base : Nat} {r : Reach} {b0 : Nat} {sp : Nat → Bool} {held : Bool} {v : Value} {d : DataW H} {p : List MemPlace}
    (hv : Value.okWide Tryd.prog W r b0 23 v) (h : DataW.Trod enc Tryd.prog W base sp held 23 v d p) : ∃ L : List Nat, v = .agg (lanes L) ∧ State L ∧ d = datum .u64 L ∧ p = [] := by
  unfold Value.okWide at hv
  rw [Tryd.underlying23] at hv
  obtain ⟨cs, rfl, hsz, _⟩ := hv
  obtain ⟨fuel, hf⟩ := h
  obtain ⟨xs, m, rfl, hx, hl, hn, hel⟩ := DataW.trod_array Tryd.underlying23 hf
  have hc : Tryd.prog.cellsOf 22 = 1 := by kernel_rfl
  have hct : Tryd.prog.cellsOf 23 = 25 := by kernel_rfl
  rw [hct] at hsz
  have hcell : ∀ i (hi : i < 25), ∃ z : Nat, cs[i]'(by omega) = .int .u64 (z : Int) ∧ z < 2 ^ 64 ∧ xs[i]? = some (.lit (.int .u64 (z : Int)), []) := by
    intro i hi
    have h1 := hel i hi
    rw [hc, Nat.mul_one] at h1
    have hxi : i < xs.length := by omega
    rw [List.getElem?_eq_getElem hxi] at h1
    have hdt : (((Value.agg cs).cells.toList).drop i).take 1 = [cs[i]'(by omega)] := by
      show (cs.toList.drop i).take 1 = _
      rw [List.take_one]
      simp [List.head?_drop, hsz, hi]
    rw [hdt] at h1
    obtain ⟨z, e1, e2, e3⟩ := DataW.trod_int Tryd.underlying22 h1
    have hb : 0 ≤ z ∧ z < 2 ^ 64 := by
      have m0 : IntKind.u64.min = 0 := rfl
      have m1 : IntKind.u64.max = 18446744073709551615 := rfl
      simp only [Lit.wf, Bool.and_eq_true, decide_eq_true_eq, m0, m1] at e3
      omega
    obtain ⟨z', rfl⟩ := Int.eq_ofNat_of_zero_le hb.1
    refine ⟨z', by simpa using e1, by omega, ?_⟩
    rw [List.getElem?_eq_getElem hxi, e2]
  let f : DataW H × List MemPlace → Nat := fun y => match y.1 with | .lit (.int _ z) => z.toNat | _ => 0
  have hL : ∀ i, i < 25 → ∃ z : Nat, cs[i]? = some (.int .u64 (z : Int)) ∧ z < 2 ^ 64 ∧ (xs.map f)[i]? = some z ∧ xs[i]? = some (.lit (.int .u64 (z : Int)), []) := by
    intro i hi
    obtain ⟨z, h1, h2, h3⟩ := hcell i hi
    refine ⟨z, by rw [Array.getElem?_eq_getElem (by omega), h1], h2, ?_, h3⟩
    rw [List.getElem?_map, h3]; rfl
  have hlen : (xs.map f).length = 25 := by rw [List.length_map, hn]
  have hnth : ∀ i, i < 25 → ∃ z : Nat, nth (xs.map f) i = z ∧ cs[i]? = some (.int .u64 (z : Int)) ∧ z < 2 ^ 64 ∧ xs[i]? = some (.lit (.int .u64 (z : Int)), []) := by
    intro i hi
    obtain ⟨z, h1, h2, h3, h4⟩ := hL i hi
    exact ⟨z, by unfold nth; rw [List.getD_eq_getElem?_getD, h3]; rfl, h1, h2, h4⟩
  refine ⟨xs.map f, ?_, ⟨hlen, fun i => ?_⟩, ?_, ?_⟩
  · congr 1
    refine Array.ext_getElem? fun i => ?_
    by_cases hi : i < 25
    · obtain ⟨z, h1, h2, _⟩ := hnth i hi
      rw [h2, lanes_get _ i (by omega), h1]
    · rw [Array.getElem?_eq_none (by omega), Array.getElem?_eq_none (by rw [lanes_size]; omega)]
  · by_cases hi : i < 25
    · obtain ⟨z, h1, _, h3, _⟩ := hnth i hi
      rw [h1]; exact h3
    · have : (xs.map f)[i]? = none := List.getElem?_eq_none (by omega)
      unfold nth; rw [List.getD_eq_getElem?_getD, this]; simp
  · have hx1 := congrArg Prod.fst hx
    simp only at hx1
    rw [hx1]
    unfold datum
    congr 1
    refine List.ext_getElem? fun i => ?_
    by_cases hi : i < 25
    · obtain ⟨z, _, _, h3, h4⟩ := hL i hi
      rw [List.getElem?_map, List.getElem?_map, h3, h4]; rfl
    · rw [List.getElem?_eq_none (by rw [List.length_map]; omega), List.getElem?_eq_none (by rw [List.length_map]; omega)]
  · have hx2 := congrArg Prod.snd hx
    simp only at hx2
    rw [hx2, List.flatMap_eq_nil_iff]
    intro y hy
    obtain ⟨i, hi, rfl⟩ := List.getElem_of_mem hy
    obtain ⟨z, _, _, _, h4⟩ := hL i (by omega)
    rw [List.getElem?_eq_getElem hi] at h4
    rw [Option.some.inj h4]
theorem laidOut : laidOutB Tryd.prog = true := by kernel_rfl
theorem state_stays {H : Type} {enc : TypeId × Value → H} {W W' : World} {v : Value} {d : DataW H} (h : DataW.Trod enc Tryd.prog W 0 (fun _ => true) true 23 v d []) (sp : Nat → Bool) : DataW.Trod enc Tryd.prog W' 0 sp true 23 v d [] :=
  WideElems.Trod_stays laidOut (by kernel_rfl) (of_decide_eq_true (by kernel_rfl)) h (fun x hx => by cases hx) (fun x hx => by cases hx)
end Go.Proofs.YtkinhfaehfldjaaDoor
