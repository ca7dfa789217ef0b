/- What the rows' premise gives a walk: the three tables; the frame that all rows share. -/
import Derived.Test.YtkinhfaehfldjaaDoorB1
import Derived.ProofKit
import Derived.LaidMore
import Derived.OpenShut
import Derived.Stop.Joined
namespace Go.Proofs.YtkinhfaehfldjaaDoor
open Go.ChangeShapes Go.WideShapes Go.ChangeAt Go.RowKit

theorem own : ownKnob Tryd.prog.godebug = none := by kernel_rfl
theorem gC : Tryd.prog.globalNamed "loess/keccak.constants" = some 0 := by kernel_rfl
theorem gT : Tryd.prog.globalNamed "loess/keccak.turns" = some 1 := by kernel_rfl
theorem gP : Tryd.prog.globalNamed "loess/keccak.places" = some 2 := by kernel_rfl
theorem tC : (Tryd.prog.globals[0]?).map (·.type) = some 45 := by kernel_rfl
theorem tT : (Tryd.prog.globals[1]?).map (·.type) = some 48 := by kernel_rfl
theorem tP : (Tryd.prog.globals[2]?).map (·.type) = some 48 := by kernel_rfl
abbrev laid3 {H : Type} : List (String × DataW H) := [("loess/keccak.constants", Rows.laid_loess_keccak_constants), ("loess/keccak.turns", Rows.laid_loess_keccak_turns), ("loess/keccak.places", Rows.laid_loess_keccak_places)]

theorem door_met (os : Os) (args : Array Value) : laidMetH Tryd.prog laid3 ((World.doorLaid Tryd.prog 4000 os).forCall (fun _ _ => 0) ⟨#[], args, []⟩).memory :=
  laidMetH_of_parts3 (fuel := 8) (laidMet_of_run' 8 (by kernel_rfl) (by kernel_rfl)) (by kernel_rfl) (by kernel_rfl)

def datum {H : Type} (k : IntKind) (L : List Nat) : DataW H := .agg (L.map fun n : Nat => .lit (.int k (n : Int)))
/-- An array of whole numbers that reads as this datum has these cells. -/
theorem cells_of_datum {H : Type} {enc : TypeId × Value → H} {w : World} {base : Nat} {sp : Nat → Bool} {held : Bool} {fuel n : Nat} {t e : TypeId} {k : IntKind} {cs : Array Value} {L : List Nat} {p : List MemPlace}
    (hu : Tryd.prog.underlying t = some (.array n e)) (hue : Tryd.prog.underlying e = some (.int k)) (hc : Tryd.prog.cellsOf e = 1) (hct : Tryd.prog.cellsOf t = n)
    (h : DataW.trod enc Tryd.prog w base sp held fuel t cs.toList = some (datum k L, p)) : cs = kcells k L := by
  obtain ⟨xs, m, rfl, hx, hl, hn, hel⟩ := DataW.trod_array hu h
  simp only [Prod.mk.injEq, datum, DataW.agg.injEq] at hx
  have hLn : L.length = n := by have := congrArg List.length hx.1; simp at this; omega
  have hsz : cs.size = n := by rw [← hct, ← hl]; simp
  refine Array.ext_getElem? fun i => ?_
  by_cases hi : i < n
  · have h1 := hel i hi
    rw [hc, Nat.mul_one] at h1
    have hxi : i < xs.length := by omega
    rw [List.getElem?_eq_getElem hxi] at h1
    have hdt : (cs.toList.drop i).take 1 = [cs[i]'(by omega)] := by
      rw [List.take_one]
      simp [List.head?_drop, hsz, hi]
    rw [hdt] at h1
    obtain ⟨z, e1, e2, _⟩ := DataW.trod_int hue h1
    rw [kcells_get k L i (by omega), Array.getElem?_eq_getElem (by omega)]
    have hx2 := congrArg (fun l => l[i]?) hx.1
    simp only [List.getElem?_map, List.getElem?_eq_getElem hxi, List.getElem?_eq_getElem (show i < L.length by omega), Option.map_some, Option.some.injEq] at hx2
    rw [e2] at hx2
    simp only [List.cons.injEq, and_true] at e1
    have hz : z = ((L[i]'(by omega) : Nat) : Int) := by
      simp only [DataW.lit.injEq, Lit.int.injEq] at hx2
      exact hx2.2.symm
    rw [e1, hz]
    simp [nth, show i < L.length by omega]
  · rw [Array.getElem?_eq_none (by omega), Array.getElem?_eq_none (by simp [kcells]; omega)]

theorem of_laid {W : World} (h : laidMetH Tryd.prog laid3 W) : Vars W := by
  rw [MakeChecks.laidMetH_plain _ _ _ (by kernel_rfl)] at h
  obtain ⟨ps, ⟨g0, t0, cs0, f0, p0, q0, hg0, ht0, hv0, hd0, ⟨g1, t1, cs1, f1, p1, q1, hg1, ht1, hv1, hd1, ⟨g2, t2, cs2, f2, p2, q2, hg2, ht2, hv2, hd2, hq2, hq1⟩, hq0⟩, hps⟩, _, hall⟩ := h
  obtain rfl := Option.some.inj (gC.symm.trans hg0)
  obtain rfl := Option.some.inj (gT.symm.trans hg1)
  obtain rfl := Option.some.inj (gP.symm.trans hg2)
  obtain rfl := Option.some.inj (tC.symm.trans ht0)
  obtain rfl := Option.some.inj (tT.symm.trans ht1)
  obtain rfl := Option.some.inj (tP.symm.trans ht2)
  have e0 : cs0 = lanes consts := cells_of_datum (k := .u64) (L := consts) Tryd.underlying45 Tryd.underlying22 (by kernel_rfl) (by kernel_rfl) hd0
  have e1 : cs1 = ints turnsL := cells_of_datum (k := .i64) (L := turnsL) Tryd.underlying48 Tryd.underlying3 (by kernel_rfl) (by kernel_rfl) hd1
  have e2 : cs2 = ints placesL := cells_of_datum (k := .i64) (L := placesL) Tryd.underlying48 Tryd.underlying3 (by kernel_rfl) (by kernel_rfl) hd2
  subst e0 e1 e2
  have key : ∀ (n : String) (g : Nat) (cs : Array Value), Tryd.prog.globalNamed n = some g → W.var? Tryd.prog n = some cs → (∃ c t, W.heap[g]? = some (.cells c t (0, 0))) → ∃ t, HB W g cs t := by
    intro n g cs hg hv ⟨c, t, hh⟩
    simp only [World.var?, hg, Option.bind_some, hh, Option.some.injEq] at hv
    subst hv
    exact ⟨t, hh⟩
  have hin : ∀ g n, 0 < n → MemPlace.cell g 0 ∈ MemPlace.row ⟨g, 0, none⟩ n := fun g n hn => List.mem_map.2 ⟨0, List.mem_range.2 hn, rfl⟩
  refine ⟨key _ _ _ gC hv0 (hall 0 0 ?_).1, key _ _ _ gT hv1 (hall 1 0 ?_).1, key _ _ _ gP hv2 (hall 2 0 ?_).1⟩
  · rw [hps]
    exact List.mem_append_left _ (List.mem_append_left _ (hin 0 _ (by decide)))
  · rw [hps, hq0]
    exact List.mem_append_right _ (List.mem_append_left _ (List.mem_append_left _ (hin 1 _ (by decide))))
  · rw [hps, hq0, hq1]
    exact List.mem_append_right _ (List.mem_append_right _ (List.mem_append_left _ (List.mem_append_left _ (hin 2 _ (by decide)))))
theorem Vars.size {W : World} (h : Vars W) : 3 ≤ W.heap.size := by
  obtain ⟨_, h⟩ := h.p
  exact h.lt
section
variable {H : Type} {enc : TypeId × Value → H} {P : Program}
theorem post_of_below {f : Func} {s : ChangeSpec} {apart fresh handsOn again : Bool} {W W' : World} {args : Array Value} {v : Value} {ds gs : List (DataW H)} {before pa pv : List MemPlace}
    (hW : DataW.Whole enc P f.params.toList s.vars apart W args.toList ds gs before)
    (hres : ∀ (b : Nat) (sp : Nat → Bool) (hd : Bool), DataW.TrodAll enc P W' b sp hd f.resultTypes.toList (v.resultList f.resultTypes.size) (s.fn H (ds ++ gs)).results [])
    (hargs : ∀ sp : Nat → Bool, (∀ p ∈ before, sp p.block = true) → DataW.TrodAll enc P W' 0 sp true f.params.toList args.toList (s.fn H (ds ++ gs)).args pa)
    (hvars : ∀ sp : Nat → Bool, (∀ p ∈ before, sp p.block = true) → DataW.TrodVars enc P W' sp s.vars (s.fn H (ds ++ gs)).vars pv)
    (hps : before = pa ++ pv) (hb : Below W.heap.size W W')
    (hok : ∀ (j : Nat) (t : TypeId) (r : Value), f.resultTypes[j]? = some t → (v.resultList f.resultTypes.size)[j]? = some r → Value.okWide P W' .any 0 t r) :
    s.post enc P f apart fresh handsOn again W args v W' := by
  have hlt : ∀ p ∈ before, p.block < W.heap.size := fun p hp => hW.lt p hp
  have hold : ∀ p ∈ before, (fun b => decide (b < W.heap.size)) p.block = true := fun p hp => by simpa using hlt p hp
  refine ⟨ds, gs, before, [], pa, pv, hW, hres _ _ _, hargs _ hold, hvars _ hold, World.keptBut_mono (fun p hp => ⟨hp, ?_⟩) (hb.frame (· ∈ before)), fun _ => ?_⟩
  · rw [hps, List.mem_append] at hp
    exact Or.inr hp
  · obtain ⟨_, _, _, _, _, hz, hn⟩ := hW
    refine ⟨hok, _, _, ([] ++ pa) ++ pv, ⟨[] ++ pa, pv, trodAll_append (hargs _ (fun _ _ => rfl)) (hres _ _ _), hvars _ (fun _ _ => rfl), rfl, ?_, ?_⟩, ?_⟩
    · intro b off hp
      have hin : MemPlace.cell b off ∈ before := by rw [hps]; simpa using hp
      rw [hb.frozen (hlt _ hin)]
      exact hz b off hin
    · intro ha
      have := hn ha
      rw [hps] at this
      simpa using this
    · intro p hp _
      rw [hps]
      simpa using hp
end
end Go.Proofs.YtkinhfaehfldjaaDoor
