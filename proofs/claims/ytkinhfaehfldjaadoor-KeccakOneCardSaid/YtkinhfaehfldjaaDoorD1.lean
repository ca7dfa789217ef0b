/- The law KeccakOne: the permutation is one-to-one. For every two states; the tables as the program's text lays them. -/
import Derived.Test.YtkinhfaehfldjaaDoorC2
import Derived.Test.YtkinhfaehfldjaaDoorR5
namespace Go.Proofs.YtkinhfaehfldjaaDoor
open Go.ChangeShapes Go.WideShapes Go.ChangeAt Go.RowKit

structure OneMem (w : World) (n : Nat) (A B : List Nat) (W : World) : Prop where
  a : HB W n (lanes A) 23
  b : HB W (n + 1) (lanes B) 23
  k : Below n w W

theorem one_eq (A B : List Nat) (hA : State A) (hB : State B) : decide (permN A = permN B) = decide (A = B) := by
  by_cases h : A = B
  · have h2 : permN A = permN B := by rw [h]
    rw [decide_eq_true h, decide_eq_true h2]
  · have h2 : ¬ permN A = permN B := fun e => h (permK_inj A B hA hB 24 e)
    rw [decide_eq_false h, decide_eq_false h2]

theorem run_eql23 (W : World) (A B : List Nat) (hA : A.length = 25) (hB : B.length = 25) {c : Bool} (h : decide (A = B) = c) : (binOp .eql 23 (.agg (lanes A)) (.agg (lanes B))).run Tryd.prog W = .ok (.bool c) W := by
  subst h
  simp only [binOp]
  simp [Op.equal, Op.maxDepth, eqIn23 W A B hA hB]
theorem wpQuietG_eql23 {ops : Array Oper} {C : World → Prop} {Q : Act → Prop} {a : Act} {o : Oper} {rest : List Oper} (hw : Region.wanted o (yielded ops a.tmps) = true) (x y : Operand) (ho : o.op = .binOp .eql 23 x y 23)
    (A B : List Nat) (hx : a.eval x = .agg (lanes A)) (hy : a.eval y = .agg (lanes B)) (hA : A.length = 25) (hB : B.length = 25) (c : Bool) (h : decide (A = B) = c)
    (hk : wpQuiet Tryd.prog ops C Q rest (a.put o.dst (.bool c))) : wpQuiet Tryd.prog ops C Q (o :: rest) a := by
  refine wpQuietG_val hw _ (fun W _ => ?_) hk
  unfold execOp
  simp only [ho, hx, hy, Sem.run_bind, Sem.run_pure, run_eqGuard_agg (hm := show Tryd.prog.eqGuardType Tryd.prog.depth 23 = false by kernel_rfl), run_eql23 W A B hA hB h, Result.andThen_ok]

set_option maxRecDepth 100000 in
set_option maxHeartbeats 8000000 in
theorem one_walk (A B : List Nat) (hA : State A) (hB : State B) (w : World) (hv : Vars w) : Calls Tryd.prog 5 #[.agg (lanes A), .agg (lanes B)] w fun e w' => e = .returned (.bool true) ∧ Below w.heap.size w w' := by
  have hn := hv.size
  have HV := Hd.mk hv; clear hv
  have HA := Hd.mk hA; clear hA
  have HB' := Hd.mk hB; clear hB
  go_enter Tryd.func5, Tryd.ntmps5
  go_upto_region 1 with fail
  have hC0 : OneMem w w.heap.size A B (((w.alloc (.cells (lanes A) 23)).alloc (.cells (lanes B) 23)).drew) :=
    ⟨((HB.new w _ _).alloc _).drew, (by have := HB.new (w.alloc (.cells (lanes A) 23)) (lanes B) 23; simpa using this.drew), (((Below.refl _ _).alloc (Nat.le_refl _) _).alloc (by simp) _).drew⟩
  have step : ∀ {W W' : World}, OneMem w w.heap.size A B W → Below W.heap.size W W' → OneMem w w.heap.size A B W' := fun h hb => ⟨h.a.below hb h.a.lt, h.b.below hb h.b.lt, h.k.trans (hb.mono h.k.size)⟩
  have hSA : (Tryd.prog.info? 23).map (·.size) = some (lanes A).size := by rw [lanes_size, HA.out.len]; kernel_rfl
  have hSB : (Tryd.prog.info? 23).map (·.size) = some (lanes B).size := by rw [lanes_size, HB'.out.len]; kernel_rfl
  obtain ⟨R, hR⟩ : ∃ R, R = permN A := ⟨_, rfl⟩
  obtain ⟨T, hT⟩ : ∃ T, T = permN B := ⟨_, rfl⟩
  have hRl : R.length = 25 := by rw [hR]; exact (permK_state A HA.out 24).len
  have hTl : T.length = 25 := by rw [hT]; exact (permK_state B HB'.out 24).len
  have hAl := HA.out.len
  have hBl := HB'.out.len
  obtain ⟨c, hc⟩ : ∃ c, c = decide (A = B) := ⟨_, rfl⟩
  have hRT : decide (R = T) = c := by rw [hR, hT, hc]; exact one_eq A B HA.out HB'.out
  have HR := Hd.mk hR; have HT := Hd.mk hT; have HC := Hd.mk hc; have HRT := Hd.mk hRT; clear hR hT hc hRT
  refine wp_region_quiet (C := OneMem w w.heap.size A B) (by kernel_rfl) (by kernel_rfl) hC0 ?_
  simp only []
  refine wpQuietG_call rfl (.bool true) 10 #[] (fun W => by go_simp) (fun W hW => ?_) ?_
  · exact (awake_any W (HV.out.below hW.k hn) (Nat.le_trans hn hW.k.size)).mono fun e w' ⟨he, hb⟩ => ⟨he, step hW hb⟩
  simp only [Act.put, List.setIfInBounds_toArray, List.set_cons_zero, List.set_cons_succ]
  refine wpQuietG_val rfl (.bool true) (fun W hW => by go_simp) ?_
  simp only [Act.put, List.setIfInBounds_toArray, List.set_cons_zero, List.set_cons_succ]
  refine wpQuietG_row rfl 23 _ rfl w.heap.size rfl 23 (lanes A) _ (fun W hW => hW.a) Tryd.underlying23 rfl hSA ?_
  simp only [Act.put, List.setIfInBounds_toArray, List.set_cons_zero, List.set_cons_succ]
  refine wpQuietG_call rfl (.agg (lanes R)) 11 #[.agg (lanes A)] (fun W => by go_simp) (fun W hW => ?_) ?_
  · rw [HR.out]
    exact (perm_any A HA.out.len W (HV.out.below hW.k hn) (Nat.le_trans hn hW.k.size)).mono fun e w' ⟨he, hb⟩ => ⟨he, step hW hb⟩
  simp only [Act.put, List.setIfInBounds_toArray, List.set_cons_zero, List.set_cons_succ]
  refine wpQuietG_row rfl 23 _ rfl (w.heap.size + 1) rfl 23 (lanes B) _ (fun W hW => hW.b) Tryd.underlying23 rfl hSB ?_
  simp only [Act.put, List.setIfInBounds_toArray, List.set_cons_zero, List.set_cons_succ]
  refine wpQuietG_call rfl (.agg (lanes T)) 11 #[.agg (lanes B)] (fun W => by go_simp) (fun W hW => ?_) ?_
  · rw [HT.out]
    exact (perm_any B HB'.out.len W (HV.out.below hW.k hn) (Nat.le_trans hn hW.k.size)).mono fun e w' ⟨he, hb⟩ => ⟨he, step hW hb⟩
  simp only [Act.put, List.setIfInBounds_toArray, List.set_cons_zero, List.set_cons_succ]
  refine wpQuietG_eql23 rfl _ _ rfl R T rfl rfl hRl hTl c HRT.out ?_
  simp only [Act.put, List.setIfInBounds_toArray, List.set_cons_zero, List.set_cons_succ]
  refine wpQuietG_row rfl 23 _ rfl w.heap.size rfl 23 (lanes A) _ (fun W hW => hW.a) Tryd.underlying23 rfl hSA ?_
  simp only [Act.put, List.setIfInBounds_toArray, List.set_cons_zero, List.set_cons_succ]
  refine wpQuietG_row rfl 23 _ rfl (w.heap.size + 1) rfl 23 (lanes B) _ (fun W hW => hW.b) Tryd.underlying23 rfl hSB ?_
  simp only [Act.put, List.setIfInBounds_toArray, List.set_cons_zero, List.set_cons_succ]
  refine wpQuietG_eql23 rfl _ _ rfl A B rfl rfl hAl hBl c HC.out.symm ?_
  simp only [Act.put, List.setIfInBounds_toArray, List.set_cons_zero, List.set_cons_succ]
  refine wpQuietG_val rfl (.bool true) (fun W hW => by go_simp) ?_
  simp only [Act.put, List.setIfInBounds_toArray, List.set_cons_zero, List.set_cons_succ]
  refine wpQuietG_val rfl (.bool true) (fun W hW => by go_simp) ?_
  simp only [Act.put, List.setIfInBounds_toArray, List.set_cons_zero, List.set_cons_succ]
  refine wpQuietG_val rfl (.bool true) (fun W hW => by go_simp) ?_
  refine wpQuiet_nil ?_
  intro W hW
  simp only [Act.put, List.setIfInBounds_toArray, List.set_cons_zero, List.set_cons_succ]
  go_wp2
  go_ret
  exact ⟨rfl, hW.k⟩

set_option maxRecDepth 100000 in
theorem one_lifted (os : Os) (started : os.Started) (H : Type) (enc : TypeId × Value → H) :
    ReturnsInHanded {} Tryd.checked os 5 .any (fun w args => (Rows.keccakOneSpec.pre enc Tryd.prog Tryd.f5 [] false w args ∧ laidMetH Tryd.prog laid3 w) ∧ sizedMet enc Tryd.prog Tryd.f5 (OpenSpec.ofChange Rows.keccakOneSpec) false w args)
      (Rows.keccakOneSpec.post enc Tryd.prog Tryd.f5 false true false false) := by
  refine returnsInHanded_of_change_and (C := Tryd.checked) (X := fun w _ => laidMetH Tryd.prog laid3 w) (fun _ _ _ hh h => h.of_heap hh) own started (by kernel_rfl) Tryd.func5
    (ChangeSpec.witness_shaped (enc := enc) (C := Tryd.checked) (os := os) (X := fun w _ => laidMetH Tryd.prog laid3 w) false (World.doorLaid Tryd.prog 4000 os) #[.agg (lanes (zeros 25)), .agg (lanes (zeros 25))] 8 rfl (World.shaped_of_RefB (by kernel_rfl) (by kernel_rfl)) (by kernel_rfl) (by kernel_rfl) (by kernel_rfl) (door_met os _)) ?_
  intro W base args ds gs before hval0 hW _ _ hL _
  have hval : ∀ (j : Nat) t v, Tryd.f5.params[j]? = some t → args[j]? = some v → Value.okWide Tryd.prog W .any base t v := hval0
  have hW' := hW
  obtain ⟨p, q, hA0, hV, rfl, hfz, hnd⟩ := hW
  have hA : DataW.TrodAll enc Tryd.prog W 0 (fun _ => true) true Tryd.f5.params.toList args.toList ds p := hA0
  rw [Tryd.params5] at hA hval
  obtain ⟨v0, v1, d0, d1, p0, p1, rfl, rfl, rfl, h0, h1⟩ := trodAll_two hA
  obtain ⟨rfl, rfl⟩ := trodVars_none hV
  obtain ⟨A, rfl, hAs, rfl, rfl⟩ := open_state (hval 0 23 v0 rfl rfl) h0
  obtain ⟨B, rfl, hBs, rfl, rfl⟩ := open_state (hval 1 23 v1 rfl rfl) h1
  clear hA0 hval0
  simp only [List.append_nil] at hW'
  refine (one_walk A B hAs hBs W (of_laid hL)).mono fun e W' ⟨he, hb⟩ => ?_
  subst he
  exact ⟨_, rfl, post_of_below (pa := []) (pv := []) hW' (fun _ _ _ => trodAll_mk1 (shut_bool Tryd.underlying4 true)) (fun sp _ => trodAll_mk2 (state_stays h0 sp) (state_stays h1 sp)) (fun _ _ => rfl) rfl hb (ok_one (by kernel_rfl) rfl (okWide_bool_mk Tryd.underlying4 true))⟩

theorem one_holds : Rows.KeccakOneSaid :=
  OpenClaim.holds_of_wide 5 Tryd.f5 rfl rfl rfl rfl rfl rfl rfl ⟨rfl, rfl, rfl, rfl, rfl⟩ rfl rfl rfl rfl rfl (by kernel_rfl) Tryd.func5 (by kernel_rfl)
    (of_decide_eq_true (by kernel_rfl)) (by unfold Func.isWrapper; rw [if_neg (of_decide_eq_false (by kernel_rfl))]; exact ⟨rfl, rfl⟩)
    (fun os started H enc _ => one_lifted os started H enc)
#print axioms one_holds
end Go.Proofs.YtkinhfaehfldjaaDoor
