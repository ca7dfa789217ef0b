/- The law KeccakPermutes: the permutation is the reference's. For every state; the tables as the program's text lays them. -/
import Derived.Test.YtkinhfaehfldjaaDoorC2
import Derived.Test.YtkinhfaehfldjaaDoorR4
namespace Go.Proofs.YtkinhfaehfldjaaDoor
open Go.ChangeShapes Go.WideShapes Go.ChangeAt Go.RowKit

structure LMem (w : World) (n : Nat) (L : List Nat) (W : World) : Prop where
  a : HB W n (lanes L) 23
  b : Below n w W

set_option maxRecDepth 100000 in
set_option maxHeartbeats 1000000 in
theorem permutes_walk (L : List Nat) (hL : State L) (w : World) (hv : Vars w) : Calls Tryd.prog 3 #[.agg (lanes L)] w fun e w' => e = .returned (.bool true) ∧ Below w.heap.size w w' := by
  have hn := hv.size
  have HV := Hd.mk hv; clear hv
  have HL := Hd.mk hL; clear hL
  go_enter Tryd.func3, Tryd.ntmps3
  go_upto_region 1 with fail
  have hC0 : LMem w w.heap.size L ((w.alloc (.cells (lanes L) 23)).drew) := ⟨(HB.new w _ _).drew, ((Below.refl _ _).alloc (Nat.le_refl _) _).drew⟩
  have step : ∀ {W W' : World}, LMem w w.heap.size L W → Below W.heap.size W W' → LMem w w.heap.size L W' := fun h hb => ⟨h.a.below hb h.a.lt, h.b.trans (hb.mono h.b.size)⟩
  have hS : (Tryd.prog.info? 23).map (·.size) = some (lanes L).size := by rw [lanes_size, HL.out.len]; kernel_rfl
  obtain ⟨R, hR⟩ : ∃ R, R = permN L := ⟨_, rfl⟩
  have hRR : permRK L 24 = R := by rw [hR]; exact perm_eq L HL.out 24
  have hRl : R.length = 25 := by rw [hR]; exact (permK_state L HL.out 24).len
  have HR := Hd.mk hR; have HRR := Hd.mk hRR; clear hR hRR
  refine wp_region_quiet (C := LMem w w.heap.size L) (by kernel_rfl) (by kernel_rfl) hC0 ?_
  simp only []
  refine wpQuietG_call rfl (.bool true) 10 #[] (fun W => by go_simp) (fun W hW => ?_) ?_
  · exact (awake_any W (HV.out.below hW.b hn) (Nat.le_trans hn hW.b.size)).mono fun e w' ⟨he, hb⟩ => ⟨he, step hW hb⟩
  refine wpQuietG_val rfl (.bool true) (fun W hW => by go_simp) ?_
  refine wpQuietG_row rfl 23 _ rfl w.heap.size rfl 23 (lanes L) _ (fun W hW => hW.a) Tryd.underlying23 rfl hS ?_
  refine wpQuietG_call rfl (.agg (lanes R)) 11 #[.agg (lanes L)] (fun W => by go_simp) (fun W hW => ?_) ?_
  · rw [HR.out]
    exact (perm_any L HL.out.len W (HV.out.below hW.b hn) (Nat.le_trans hn hW.b.size)).mono fun e w' ⟨he, hb⟩ => ⟨he, step hW hb⟩
  refine wpQuietG_row rfl 23 _ rfl w.heap.size rfl 23 (lanes L) _ (fun W hW => hW.a) Tryd.underlying23 rfl hS ?_
  refine wpQuietG_call rfl (.agg (lanes R)) 12 #[.agg (lanes L)] (fun W => by go_simp) (fun W hW => ?_) ?_
  · rw [← HRR.out]
    exact (permr_any L HL.out.len W).mono fun e w' ⟨he, hb⟩ => ⟨he, step hW hb⟩
  refine wpQuietG_val rfl (.bool true) (fun W hW => ?_) ?_
  · have heq := eqIn23 W R R hRl hRl
    rw [decide_eq_true rfl] at heq
    go_simp
  refine wpQuietG_val rfl (.bool true) (fun W hW => by go_simp) ?_
  refine wpQuietG_val rfl (.bool true) (fun W hW => by go_simp) ?_
  refine wpQuiet_nil ?_
  intro W hW
  simp only [Act.put, List.setIfInBounds_toArray, List.set_cons_zero, List.set_cons_succ]
  go_wp2
  go_ret
  exact ⟨rfl, hW.b⟩

set_option maxRecDepth 100000 in
theorem permutes_lifted (os : Os) (started : os.Started) (H : Type) (enc : TypeId × Value → H) :
    ReturnsInHanded {} Tryd.checked os 3 .any (fun w args => (Rows.keccakPermutesSpec.pre enc Tryd.prog Tryd.f3 [] false w args ∧ laidMetH Tryd.prog laid3 w) ∧ sizedMet enc Tryd.prog Tryd.f3 (OpenSpec.ofChange Rows.keccakPermutesSpec) false w args)
      (Rows.keccakPermutesSpec.post enc Tryd.prog Tryd.f3 false true false false) := by
  refine returnsInHanded_of_change_and (C := Tryd.checked) (X := fun w _ => laidMetH Tryd.prog laid3 w) (fun _ _ _ hh h => h.of_heap hh) own started (by kernel_rfl) Tryd.func3
    (ChangeSpec.witness_shaped (enc := enc) (C := Tryd.checked) (os := os) (X := fun w _ => laidMetH Tryd.prog laid3 w) false (World.doorLaid Tryd.prog 4000 os) #[.agg (lanes (zeros 25))] 8 rfl (World.shaped_of_RefB (by kernel_rfl) (by kernel_rfl)) (by kernel_rfl) (by kernel_rfl) (by kernel_rfl) (door_met os _)) ?_
  intro W base args ds gs before hval0 hW _ _ hL _
  have hval : ∀ (j : Nat) t v, Tryd.f3.params[j]? = some t → args[j]? = some v → Value.okWide Tryd.prog W .any base t v := hval0
  have hW' := hW
  obtain ⟨p, q, hA0, hV, rfl, hfz, hnd⟩ := hW
  have hA : DataW.TrodAll enc Tryd.prog W 0 (fun _ => true) true Tryd.f3.params.toList args.toList ds p := hA0
  rw [Tryd.params3] at hA hval
  obtain ⟨v0, d0, rfl, rfl, h0⟩ := trodAll_one hA
  obtain ⟨rfl, rfl⟩ := trodVars_none hV
  obtain ⟨L, rfl, hLs, rfl, rfl⟩ := open_state (hval 0 23 v0 rfl rfl) h0
  clear hA0 hval0
  simp only [List.append_nil] at hW'
  refine (permutes_walk L hLs W (of_laid hL)).mono fun e W' ⟨he, hb⟩ => ?_
  subst he
  exact ⟨_, rfl, post_of_below (pa := []) (pv := []) hW' (fun _ _ _ => trodAll_mk1 (shut_bool Tryd.underlying4 true)) (fun sp _ => trodAll_mk1 (state_stays h0 sp)) (fun _ _ => rfl) rfl hb (ok_one (by kernel_rfl) rfl (okWide_bool_mk Tryd.underlying4 true))⟩

theorem permutes_holds : Rows.KeccakPermutesSaid :=
  OpenClaim.holds_of_wide 3 Tryd.f3 rfl rfl rfl rfl rfl rfl rfl ⟨rfl, rfl, rfl, rfl, rfl⟩ rfl rfl rfl rfl rfl (by kernel_rfl) Tryd.func3 (by kernel_rfl)
    (of_decide_eq_true (by kernel_rfl)) (by unfold Func.isWrapper; rw [if_neg (of_decide_eq_false (by kernel_rfl))]; exact ⟨rfl, rfl⟩)
    (fun os started H enc _ => permutes_lifted os started H enc)
#print axioms permutes_holds
end Go.Proofs.YtkinhfaehfldjaaDoor
