/- The law KeccakSums: the hash is the reference's. For every string; the tables as the program's text lays them. -/
import Derived.Test.YtkinhfaehfldjaaDoorD2
import Derived.Test.YtkinhfaehfldjaaDoorE2
namespace Go.Proofs.YtkinhfaehfldjaaDoor
open Go.ChangeShapes Go.WideShapes Go.ChangeAt Go.RowKit
open Go.ChangeMaps (open_string shut_string)

set_option maxRecDepth 100000 in
set_option maxHeartbeats 1000000 in
theorem sums_walk (s : ByteArray) (w : World) (hv : Vars w) : Calls Tryd.prog 4 #[.string s] w fun e w' => e = .returned (.bool true) ∧ Below w.heap.size w w' := by
  have hn := hv.size
  have HAW := Hd.mk (awake_any w hv hn)
  have HV := Hd.mk hv; clear hv
  go_enter Tryd.func4, Tryd.ntmps4
  go_upto_if 7 with (go_at_call 10; refine HAW.out.mono ?_; rintro e w1 ⟨rfl, hb1⟩)
  go_cut [0] (fun a W => ∃ s0 : ByteArray, a = .string s0 ∧ s0.size ≤ 3000 ∧ W = w1)
  case first =>
    by_cases h : 3000 < s.size
    · go_wp2_with fail
      go_meet
      exact ⟨s.extract 0 3000, rfl, by simp; omega, rfl⟩
    · go_wp2_with fail
      go_meet
      exact ⟨s, rfl, by omega, rfl⟩
  case rest =>
  obtain ⟨t0, rfl, ht0, hw⟩ := hcut
  have hw' := hw.symm; clear hw; subst hw'
  have hs1 := hb1.size
  have hn1 : 3 ≤ w1.heap.size := Nat.le_trans hn hs1
  have hcat : cat [t0] = bytesOf t0 := cat_one t0
  have htl : (cat [t0]).length ≤ 140737488355328 := by rw [hcat, bytesOf_length]; omega
  obtain ⟨R, hR⟩ : ∃ R, R = hashN (bytesOf t0) := ⟨_, rfl⟩
  have hRl : R.length = 32 := by rw [hR]; exact outK_len _ _
  have HR := Hd.mk hR
  have HC := Hd.mk hcat
  have HT := Hd.mk htl
  have heq : ∀ W : World, (Op.equalIn 10000 27 (.agg (octets R)) (.agg (octets R))).run Tryd.prog W = .ok true W := fun W => (eqIn27 W R R hRl hRl).trans (by simp)
  have hB2 : Below w1.heap.size w1 (w1.alloc (.cells #[.string t0] 9)) := (Below.refl _ _).alloc (Nat.le_refl _) _
  have hsum := sum_any (w1.alloc (.cells #[.string t0] 9)) _ [t0] 1 (strs_one (HB.new w1 #[.string t0] 9)) htl (by simp [maxLen]) (HV.out.below (hb1.trans (hB2.mono hs1)) hn) (Nat.le_trans hn1 hB2.size)
  rw [hcat, ← hR] at hsum
  have href : ∀ W, Calls Tryd.prog 14 #[.string t0] W fun e w' => e = .returned (.agg (octets R)) ∧ Below W.heap.size W w' := fun W => by rw [hR]; exact refsum_any t0 ht0 W
  have HSUM := Hd.mk hsum; have HREF := Hd.mk href
  clear hR hcat htl hsum href
  go_wp2_with (first
    | (go_at_call 13; refine HSUM.out.mono ?_; rintro e w3 ⟨rfl, hb3⟩)
    | (go_at_call 14; refine (HREF.out _).mono ?_; rintro e w4 ⟨rfl, hb4⟩))
  go_ret
  have h3 := hB2.trans (hb3.mono hB2.size)
  have h4 := h3.trans (hb4.mono h3.size)
  exact ⟨rfl, hb1.trans (h4.mono hs1)⟩

set_option maxRecDepth 100000 in
theorem sums_lifted (os : Os) (started : os.Started) (H : Type) (enc : TypeId × Value → H) :
    ReturnsInHanded {} Tryd.checked os 4 .any (fun w args => (Rows.keccakSumsSpec.pre enc Tryd.prog Tryd.f4 [] false w args ∧ laidMetH Tryd.prog laid3 w) ∧ sizedMet enc Tryd.prog Tryd.f4 (OpenSpec.ofChange Rows.keccakSumsSpec) false w args)
      (Rows.keccakSumsSpec.post enc Tryd.prog Tryd.f4 false true false false) := by
  refine returnsInHanded_of_change_and (C := Tryd.checked) (X := fun w _ => laidMetH Tryd.prog laid3 w) (fun _ _ _ hh h => h.of_heap hh) own started (by kernel_rfl) Tryd.func4
    (ChangeSpec.witness_shaped (enc := enc) (C := Tryd.checked) (os := os) (X := fun w _ => laidMetH Tryd.prog laid3 w) false (World.doorLaid Tryd.prog 4000 os) #[.string ByteArray.empty] 8 rfl (World.shaped_of_RefB (by kernel_rfl) (by kernel_rfl)) (by kernel_rfl) (by kernel_rfl) (by kernel_rfl) (door_met os _)) ?_
  intro W base args ds gs before hval0 hW _ _ hL _
  have hval : ∀ (j : Nat) t v, Tryd.f4.params[j]? = some t → args[j]? = some v → Value.okWide Tryd.prog W .any base t v := hval0
  have hW' := hW
  obtain ⟨p, q, hA0, hV, rfl, hfz, hnd⟩ := hW
  have hA : DataW.TrodAll enc Tryd.prog W 0 (fun _ => true) true Tryd.f4.params.toList args.toList ds p := hA0
  rw [Tryd.params4] at hA hval
  obtain ⟨v0, d0, rfl, rfl, h0⟩ := trodAll_one hA
  obtain ⟨rfl, rfl⟩ := trodVars_none hV
  obtain ⟨s, rfl, rfl, rfl, hs⟩ := open_string Tryd.underlying9 (hval 0 9 v0 rfl rfl) h0
  clear hA0 hval0
  simp only [List.append_nil] at hW'
  refine (sums_walk s W (of_laid hL)).mono fun e W' ⟨he, hb⟩ => ?_
  subst he
  exact ⟨_, rfl, post_of_below (pa := []) (pv := []) hW' (fun _ _ _ => trodAll_mk1 (shut_bool Tryd.underlying4 true)) (fun sp _ => trodAll_mk1 (shut_string Tryd.underlying9 hs)) (fun _ _ => rfl) rfl hb (ok_one (by kernel_rfl) rfl (okWide_bool_mk Tryd.underlying4 true))⟩

theorem sums_holds : Rows.KeccakSumsSaid :=
  OpenClaim.holds_of_wide 4 Tryd.f4 rfl rfl rfl rfl rfl rfl rfl ⟨rfl, rfl, rfl, rfl, rfl⟩ rfl rfl rfl rfl rfl (by kernel_rfl) Tryd.func4 (by kernel_rfl)
    (of_decide_eq_true (by kernel_rfl)) (by unfold Func.isWrapper; rw [if_neg (of_decide_eq_false (by kernel_rfl))]; exact ⟨rfl, rfl⟩)
    (fun os started H enc _ => sums_lifted os started H enc)
#print axioms sums_holds
end Go.Proofs.YtkinhfaehfldjaaDoor
