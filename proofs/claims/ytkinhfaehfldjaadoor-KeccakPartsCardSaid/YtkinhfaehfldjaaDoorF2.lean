/- The row of KeccakParts: for every list of strings; the tables as the program's text lays them. -/
import Derived.Test.YtkinhfaehfldjaaDoorF1
namespace Go.Proofs.YtkinhfaehfldjaaDoor
open Go.ChangeShapes Go.WideShapes Go.ChangeAt Go.RowKit

theorem open_parts {H : Type} {enc : TypeId × Value → H} {W : World} {base : Nat} {r : Reach} {b0 : Nat} {sp : Nat → Bool} {held : Bool} {v : Value} {d : DataW H} {p : List MemPlace}
    (hv : Value.okWide Tryd.prog W r b0 34 v) (h : DataW.Trod enc Tryd.prog W base sp held 34 v d p) (_hlt : ∀ x ∈ p, x.block < W.heap.size) :
    ∃ (n : Nat) (a : Option Addr) (c : Nat) (ts : Nat → ByteArray), v = .slice a n c ∧ n ≤ maxLen ∧ ∀ i, i < n → ∃ gp o, a = some ⟨gp, o, none⟩ ∧ gp < W.heap.size ∧ W.cell? ⟨gp, o + i, none⟩ = some (.string (ts i)) := by
  obtain ⟨a0, len, cap, rfl⟩ := okWide_slice Tryd.underlying34 hv
  obtain ⟨fuel, hf⟩ := h
  have hc9 : Tryd.prog.cellsOf 9 = 1 := by kernel_rfl
  rcases open_strings Tryd.underlying34 Tryd.underlying9 hc9 hf with ⟨hcs, _⟩ | ⟨a, len', cap', ss, hcs, _, hl, hm, hz, _, hcell, _⟩
  · simp [Value.cells] at hcs
    obtain ⟨rfl, rfl, rfl⟩ := hcs
    exact ⟨0, none, 0, fun _ => ByteArray.empty, rfl, Nat.zero_le _, fun i hi => absurd hi (Nat.not_lt_zero _)⟩
  · simp [Value.cells] at hcs
    obtain ⟨rfl, rfl, rfl⟩ := hcs
    refine ⟨len, some a, cap, fun i => ss.getD i ByteArray.empty, rfl, Nat.le_trans hl hm, fun i hi => ?_⟩
    have hsl : len ≤ ss.length := by rw [hz]; split <;> omega
    have h0 := hcell 0 (by omega)
    have hspot : a.spot = none := by
      have := World.cell?_spot h0
      simpa [Addr.add] using this
    have hi0 := hcell i (by omega)
    have hlt := World.block_lt_of_cell? _ _ hi0
    obtain ⟨gp, o, spt⟩ := a
    simp only at hspot
    subst hspot
    rw [Addr.add_lit] at hi0 hlt
    exact ⟨gp, o, rfl, hlt, hi0⟩

set_option maxRecDepth 100000 in
theorem parts_lifted (os : Os) (started : os.Started) (H : Type) (enc : TypeId × Value → H) :
    ReturnsInHanded {} Tryd.checked os 7 .any (fun w args => (Rows.keccakPartsSpec.pre enc Tryd.prog Tryd.f7 [] false w args ∧ laidMetH Tryd.prog laid3 w) ∧ sizedMet enc Tryd.prog Tryd.f7 (OpenSpec.ofChange Rows.keccakPartsSpec) false w args)
      (Rows.keccakPartsSpec.post enc Tryd.prog Tryd.f7 false true false false) := by
  refine returnsInHanded_of_change_and (C := Tryd.checked) (X := fun w _ => laidMetH Tryd.prog laid3 w) (fun _ _ _ hh h => h.of_heap hh) own started (by kernel_rfl) Tryd.func7
    (ChangeSpec.witness_shaped (enc := enc) (C := Tryd.checked) (os := os) (X := fun w _ => laidMetH Tryd.prog laid3 w) false (World.doorLaid Tryd.prog 4000 os) #[.slice none 0 0] 8 rfl (World.shaped_of_RefB (by kernel_rfl) (by kernel_rfl)) (by kernel_rfl) (by kernel_rfl) (by kernel_rfl) (door_met os _)) ?_
  intro W base args ds gs before hval0 hW _ _ hL _
  have hval : ∀ (j : Nat) t v, Tryd.f7.params[j]? = some t → args[j]? = some v → Value.okWide Tryd.prog W .any base t v := hval0
  have hW' := hW
  obtain ⟨p, q, hA0, hV, rfl, hfz, hnd⟩ := hW
  have hA : DataW.TrodAll enc Tryd.prog W 0 (fun _ => true) true Tryd.f7.params.toList args.toList ds p := hA0
  rw [Tryd.params7] at hA hval
  obtain ⟨v0, d0, rfl, rfl, h0⟩ := trodAll_one hA
  obtain ⟨rfl, rfl⟩ := trodVars_none hV
  have hlt : ∀ x ∈ p, x.block < W.heap.size := fun x hx => hW'.lt x (by simpa using hx)
  obtain ⟨n, a, c, ts, rfl, hnm, hts⟩ := open_parts (hval 0 34 v0 rfl rfl) h0 hlt
  clear hA0 hval0
  simp only [List.append_nil] at hW'
  refine (parts_walk n a c ts W (of_laid hL) hnm hts).mono fun e W' ⟨he, hb⟩ => ?_
  subst he
  exact ⟨_, rfl, post_of_below (pa := p) (pv := []) hW' (fun _ _ _ => trodAll_mk1 (shut_bool Tryd.underlying4 true))
    (fun sp hsp => trodAll_mk1 (WideElems.Trod_stays laidOut (by kernel_rfl) (of_decide_eq_true (by kernel_rfl)) h0 (fun x hx => hb.same (hlt x hx)) (fun x hx => hsp x hx))) (fun _ _ => rfl) (by simp) hb (ok_one (by kernel_rfl) rfl (okWide_bool_mk Tryd.underlying4 true))⟩

theorem parts_holds : Rows.KeccakPartsSaid :=
  OpenClaim.holds_of_wide 7 Tryd.f7 rfl rfl rfl rfl rfl rfl rfl ⟨rfl, rfl, rfl, rfl, rfl⟩ rfl rfl rfl rfl rfl (by kernel_rfl) Tryd.func7 (by kernel_rfl)
    (of_decide_eq_true (by kernel_rfl)) (by unfold Func.isWrapper; rw [if_neg (of_decide_eq_false (by kernel_rfl))]; exact ⟨rfl, rfl⟩)
    (fun os started H enc _ => parts_lifted os started H enc)
#print axioms parts_holds
end Go.Proofs.YtkinhfaehfldjaaDoor
