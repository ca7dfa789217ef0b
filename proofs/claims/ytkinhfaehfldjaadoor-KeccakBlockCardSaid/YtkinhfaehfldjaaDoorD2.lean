/- The law KeccakAnew: a hash that begins anew knows nothing of what was written ahead. For every two strings; the tables as the program's text lays them. -/
import Derived.Test.YtkinhfaehfldjaaDoorC2
import Derived.Deep.DeepCutAuto
namespace Go.Proofs.YtkinhfaehfldjaaDoor
open Go.ChangeShapes Go.WideShapes Go.ChangeAt Go.RowKit
open Go.ChangeMaps (open_string shut_string)

theorem cat_one (s : ByteArray) : cat [s] = bytesOf s := by simp [cat]
theorem strs_one {w : World} {g : Nat} {s : ByteArray} {t : TypeId} (h : HB w g #[.string s] t) : Strs w (some ⟨g, 0, none⟩) [s] := by
  intro i hi
  have hi0 : i = 0 := by simpa using hi
  subst hi0
  exact ⟨g, 0, rfl, h.lt, by have := h.cell 0; simpa using this⟩

set_option maxRecDepth 100000 in
set_option maxHeartbeats 1000000 in
theorem anew_walk (s t : ByteArray) (w : World) (hv : Vars w) : Calls Tryd.prog 9 #[.string s, .string t] w fun e w' => e = .returned (.bool true) ∧ Below w.heap.size w w' := by
  have hn := hv.size
  have HAW := Hd.mk (awake_any w hv hn)
  have HV := Hd.mk hv; clear hv
  go_enter Tryd.func9, Tryd.ntmps9
  go_upto_if 11 with (go_at_call 10; refine HAW.out.mono ?_; rintro e w1 ⟨rfl, hb1⟩)
  go_cut [0] (fun a W => ∃ s0 : ByteArray, a = .string s0 ∧ s0.size ≤ 600 ∧ W = w1)
  case first =>
    by_cases h : 600 < s.size
    · go_wp2_with fail
      go_meet
      exact ⟨s.extract 0 600, rfl, by simp; omega, rfl⟩
    · go_wp2_with fail
      go_meet
      exact ⟨s, rfl, by omega, rfl⟩
  case rest =>
  obtain ⟨s0, rfl, hs0, hw⟩ := hcut
  have hw' := hw.symm; clear hw; subst hw'
  go_upto_if 16 with fail
  go_cut [1] (fun a W => ∃ s0 : ByteArray, a = .string s0 ∧ s0.size ≤ 600 ∧ W = w1)
  case first =>
    by_cases h : 600 < t.size
    · go_wp2_with fail
      go_meet
      exact ⟨t.extract 0 600, rfl, by simp; omega, rfl⟩
    · go_wp2_with fail
      go_meet
      exact ⟨t, rfl, by omega, rfl⟩
  case rest =>
  obtain ⟨t0, rfl, ht0, hw⟩ := hcut
  have hw' := hw.symm; clear hw; subst hw'
  have hs1 := hb1.size
  have hn1 : 3 ≤ w1.heap.size := Nat.le_trans hn hs1
  have HN := Hd.mk (new_going w1 hn1)
  go_upto_region 7 with (go_at_call 15; refine HN.out.mono ?_; rintro e w2 ⟨rfl, hg2, hb2⟩)
  clear HN
  have hn2 : 3 ≤ w2.heap.size := Nat.le_trans hn1 hb2.size
  have hl2 := hg2.lt.1
  have HN := Hd.mk (new_going w2 hn2)
  go_upto_region 8 with (go_at_call 15; refine HN.out.mono ?_; rintro e w3 ⟨rfl, hk3, hb3⟩)
  clear HN
  have hg3 := hg2.below hb3 (Nat.le_refl _)
  have hl3 := hk3.lt.1
  have hB3 : Below w.heap.size w w3 := (hb1.trans (hb2.mono hs1)).trans (hb3.mono (Nat.le_trans hs1 hb2.size))
  generalize w1.heap.size = g at *
  generalize w2.heap.size = k at *
  clear hg2 hb1 hb2 hb3
  have hw3 := hg3.write (HV.out.below hB3 hn) (by omega) s0 (by simp; omega)
  have HW := Hd.mk hw3; clear hw3
  go_upto_region 11 with (go_at_call 16; refine HW.out.mono ?_; rintro e w4 ⟨rfl, r4, hg4, hr4, hf4⟩)
  clear HW
  have hz4 := hf4.size
  have hB4 : Below w.heap.size w w4 := hf4.below hB3 (Nat.le_refl _) (by omega)
  have hk4 := hk3.frm hf4 (by omega) (by omega)
  clear hB3 hk3 hg3 hf4
  have HW := Hd.mk (hk4.write (HV.out.below hB4 hn) (by omega) t0 (by simp; omega))
  go_upto_region 12 with (go_at_call 16; refine HW.out.mono ?_; rintro e w5 ⟨rfl, r5, hk5, hr5, hf5⟩)
  clear HW
  have hz5 := hf5.size
  have hB5 : Below w.heap.size w w5 := hf5.below hB4 (Nat.le_refl _) (by omega)
  have hg5 := hg4.frm hf5 (by omega) (by omega)
  clear hB4 hk4 hg4 hf5
  have HW := Hd.mk hg5.reset
  go_upto_region 13 with (go_at_call 19; refine HW.out.mono ?_; rintro e w6 ⟨rfl, hg6, hf6⟩)
  clear HW
  have hz6 := hf6.size
  have hB6 : Below w.heap.size w w6 := hf6.below hB5 (Nat.le_refl _) (by omega)
  have hk6 := hk5.frm hf6 (by omega) (by omega)
  clear hB5 hk5 hg5 hf6
  have HW := Hd.mk (hg6.write (HV.out.below hB6 hn) (by omega) t0 (by simp; omega))
  go_upto_region 14 with (go_at_call 16; refine HW.out.mono ?_; rintro e w7 ⟨rfl, r7, hg7, hr7, hf7⟩)
  clear HW
  have hz7 := hf7.size
  have hB7 : Below w.heap.size w w7 := hf7.below hB6 (Nat.le_refl _) (by omega)
  have hk7 := hk6.frm hf7 (by omega) (by omega)
  clear hB6 hk6 hg6 hf7
  rw [List.nil_append] at hk7 hg7
  have hv7 := HV.out.below hB7 hn
  have hn7 : 3 ≤ w7.heap.size := by omega
  have hcat : cat [t0] = bytesOf t0 := cat_one t0
  have htl : (cat [t0]).length ≤ 140737488355328 := by rw [hcat, bytesOf_length]; omega
  obtain ⟨R, hR⟩ : ∃ R, R = hashN (bytesOf t0) := ⟨_, rfl⟩
  have hRl : R.length = 32 := by rw [hR]; exact outK_len _ _
  have HR := Hd.mk hR
  have HC := Hd.mk hcat
  have HT := Hd.mk htl
  have HG := Hd.mk hg7
  have HK := Hd.mk hk7
  have HVV := Hd.mk hv7
  have HBB := Hd.mk hB7
  have heq : ∀ W : World, (Op.equalIn 10000 27 (.agg (octets R)) (.agg (octets R))).run Tryd.prog W = .ok true W := fun W => (eqIn27 W R R hRl hRl).trans (by simp)
  clear hR hcat htl hg7 hk7 hv7 hB7 hr4 hr5 hr7
  have hlen : ∀ {W' : World}, Below w7.heap.size w7 W' → 3 ≤ W'.heap.size := fun h => Nat.le_trans hn7 h.size
  have hgo : ∀ {W' : World}, Below w7.heap.size w7 W' → Calls Tryd.prog 17 #[.pointer (some ⟨g, 0, none⟩)] W' fun e W'' => e = .returned (.agg (octets R)) ∧ Below W'.heap.size W' W'' := fun h => by
    rw [HR.out]; exact (HG.out.below h (Nat.le_refl _)).sum (HVV.out.below h hn7) (hlen h)
  have hko : ∀ {W' : World}, Below w7.heap.size w7 W' → Calls Tryd.prog 17 #[.pointer (some ⟨k, 0, none⟩)] W' fun e W'' => e = .returned (.agg (octets R)) ∧ Below W'.heap.size W' W'' := fun h => by
    rw [HR.out]; exact (HK.out.below h (Nat.le_refl _)).sum (HVV.out.below h hn7) (hlen h)
  have hso : ∀ {W' : World}, Below w7.heap.size w7 W' → ∀ g' c, HB W' g' #[.string t0] 9 → Calls Tryd.prog 13 #[.slice (some ⟨g', 0, none⟩) 1 c] W' fun e W'' => e = .returned (.agg (octets R)) ∧ Below W'.heap.size W' W'' := fun h g' c hb => by
    rw [HR.out, ← HC.out]; exact sum_any _ _ [t0] c (strs_one hb) HT.out (by simp [maxLen]) (HVV.out.below h hn7) (hlen h)
  have hgl : ∀ {W' : World}, Below w7.heap.size w7 W' → Calls Tryd.prog 18 #[.pointer (some ⟨g, 0, none⟩)] W' fun e W'' => e = .returned (.int .i64 ((bytesOf t0).length : Int)) ∧ W'' = W' := fun h => (HG.out.below h (Nat.le_refl _)).len
  have hkl : ∀ {W' : World}, Below w7.heap.size w7 W' → Calls Tryd.prog 18 #[.pointer (some ⟨k, 0, none⟩)] W' fun e W'' => e = .returned (.int .i64 ((bytesOf t0).length : Int)) ∧ W'' = W' := fun h => (HK.out.below h (Nat.le_refl _)).len
  have HGO := Hd.mk (@hgo); have HKO := Hd.mk (@hko); have HSO := Hd.mk (@hso); have HGL := Hd.mk (@hgl); have HKL := Hd.mk (@hkl)
  clear hlen hgo hko hso hgl hkl
  go_wp2_with (first
    | (go_at_call_of 18 (Value.pointer (some ⟨g, 0, none⟩)); refine (HGL.out hb11).mono ?_; rintro e w12 ⟨rfl, rfl⟩)
    | (go_at_call_of 18 (Value.pointer (some ⟨k, 0, none⟩)); refine (HKL.out hb11).mono ?_; rintro e w12 ⟨rfl, rfl⟩)
    | (go_at_call 13; refine (HSO.out (hb10.alloc hb10.size _) _ _ (HB.new _ _ _)).mono ?_; rintro e w11 ⟨rfl, hb11'⟩; have hb11 := (hb10.alloc hb10.size _).trans (hb11'.mono (hb10.alloc hb10.size _).size))
    | (go_at_call_of 17 (Value.pointer (some ⟨g, 0, none⟩)); refine (HGO.out hb9).mono ?_; rintro e w10 ⟨rfl, hb10'⟩; have hb10 := hb9.trans (hb10'.mono hb9.size))
    | (go_at_call_of 17 (Value.pointer (some ⟨k, 0, none⟩)); refine (HKO.out hb8).mono ?_; rintro e w9 ⟨rfl, hb9'⟩; have hb9 := hb8.trans (hb9'.mono hb8.size))
    | (go_at_call_of 17 (Value.pointer (some ⟨g, 0, none⟩)); refine (HGO.out (Below.refl w7.heap.size w7)).mono ?_; rintro e w8 ⟨rfl, hb8⟩))
  go_ret
  exact ⟨rfl, HBB.out.trans (hb11.mono HBB.out.size)⟩

set_option maxRecDepth 100000 in
theorem anew_lifted (os : Os) (started : os.Started) (H : Type) (enc : TypeId × Value → H) :
    ReturnsInHanded {} Tryd.checked os 9 .any (fun w args => (Rows.keccakAnewSpec.pre enc Tryd.prog Tryd.f9 [] false w args ∧ laidMetH Tryd.prog laid3 w) ∧ sizedMet enc Tryd.prog Tryd.f9 (OpenSpec.ofChange Rows.keccakAnewSpec) false w args)
      (Rows.keccakAnewSpec.post enc Tryd.prog Tryd.f9 false true false false) := by
  refine returnsInHanded_of_change_and (C := Tryd.checked) (X := fun w _ => laidMetH Tryd.prog laid3 w) (fun _ _ _ hh h => h.of_heap hh) own started (by kernel_rfl) Tryd.func9
    (ChangeSpec.witness_shaped (enc := enc) (C := Tryd.checked) (os := os) (X := fun w _ => laidMetH Tryd.prog laid3 w) false (World.doorLaid Tryd.prog 4000 os) #[.string ByteArray.empty, .string ByteArray.empty] 8 rfl (World.shaped_of_RefB (by kernel_rfl) (by kernel_rfl)) (by kernel_rfl) (by kernel_rfl) (by kernel_rfl) (door_met os _)) ?_
  intro W base args ds gs before hval0 hW _ _ hL _
  have hval : ∀ (j : Nat) t v, Tryd.f9.params[j]? = some t → args[j]? = some v → Value.okWide Tryd.prog W .any base t v := hval0
  have hW' := hW
  obtain ⟨p, q, hA0, hV, rfl, hfz, hnd⟩ := hW
  have hA : DataW.TrodAll enc Tryd.prog W 0 (fun _ => true) true Tryd.f9.params.toList args.toList ds p := hA0
  rw [Tryd.params9] at hA hval
  obtain ⟨v0, v1, d0, d1, p0, p1, rfl, rfl, rfl, h0, h1⟩ := trodAll_two hA
  obtain ⟨rfl, rfl⟩ := trodVars_none hV
  obtain ⟨s, rfl, rfl, rfl, hs⟩ := open_string Tryd.underlying9 (hval 0 9 v0 rfl rfl) h0
  obtain ⟨t, rfl, rfl, rfl, ht⟩ := open_string Tryd.underlying9 (hval 1 9 v1 rfl rfl) h1
  clear hA0 hval0
  simp only [List.append_nil] at hW'
  refine (anew_walk s t W (of_laid hL)).mono fun e W' ⟨he, hb⟩ => ?_
  subst he
  exact ⟨_, rfl, post_of_below (pa := []) (pv := []) hW' (fun _ _ _ => trodAll_mk1 (shut_bool Tryd.underlying4 true)) (fun sp _ => trodAll_mk2 (shut_string Tryd.underlying9 hs) (shut_string Tryd.underlying9 ht)) (fun _ _ => rfl) rfl hb (ok_one (by kernel_rfl) rfl (okWide_bool_mk Tryd.underlying4 true))⟩

theorem anew_holds : Rows.KeccakAnewSaid :=
  OpenClaim.holds_of_wide 9 Tryd.f9 rfl rfl rfl rfl rfl rfl rfl ⟨rfl, rfl, rfl, rfl, rfl⟩ rfl rfl rfl rfl rfl (by kernel_rfl) Tryd.func9 (by kernel_rfl)
    (of_decide_eq_true (by kernel_rfl)) (by unfold Func.isWrapper; rw [if_neg (of_decide_eq_false (by kernel_rfl))]; exact ⟨rfl, rfl⟩)
    (fun os started H enc _ => anew_lifted os started H enc)
#print axioms anew_holds
end Go.Proofs.YtkinhfaehfldjaaDoor
