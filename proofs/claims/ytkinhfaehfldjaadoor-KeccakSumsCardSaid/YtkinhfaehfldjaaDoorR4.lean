/- The walk of the reference's Permute. -/
import Derived.Test.YtkinhfaehfldjaaDoorR2
import Derived.StillTailTactics
import Derived.Deep.Cut
namespace Go.Proofs.YtkinhfaehfldjaaDoor
open Go.RowKit

set_option maxRecDepth 100000 in
set_option maxHeartbeats 20000000 in
theorem permr_any (L : List Nat) (hL : L.length = 25) (w : World) :
    Calls Tryd.prog 12 #[.agg (lanes L)] w fun e w' => e = .returned (.agg (lanes (permRK L 24))) ∧ Below w.heap.size w w' := by
  have hx := bits_xr
  have ha := bits_an
  have hnt := bits_nt
  have HL := Hd.mk hL; clear hL
  have hiT : (Tryd.prog.info? 48).map (·.size) = some (ints turnsL).size := by kernel_rfl
  have hiC : (Tryd.prog.info? 45).map (·.size) = some (lanes consts).size := by rw [lanes_size]; kernel_rfl
  have HT := Hd.mk hiT; have HC := Hd.mk hiC; clear hiT hiC
  go_enter Tryd.func12, Tryd.ntmps12
  go_upto_region 3 with (first
    | (go_at_call 21; refine (offsets_any _).mono ?_; rintro e w1 ⟨rfl, hb1⟩)
    | (refine wpList_store_row rfl 48 _ _ rfl w1.heap.size (ints turnsL) rfl rfl 48 (ints (zeros 25)) (HB.new w1 (ints (zeros 25)) 48).heap HT.out rfl (ints_one _) ?_)
    | (go_at_call 22; refine (constants_any _).mono ?_; rintro e w2 ⟨rfl, hb2⟩)
    | (refine wpList_store_row rfl 45 _ _ rfl w2.heap.size (lanes consts) rfl rfl 45 (lanes (zeros 24)) (HB.new w2 (lanes (zeros 24)) 45).heap HC.out (by rw [lanes_size, lanes_size]; rfl) (lanes_one _) ?_))
  have hm3 : RMem w w.heap.size w1.heap.size w2.heap.size L ((w2.alloc (.cells (lanes (zeros 24)) 45)).setRow w2.heap.size (lanes consts)) := by
    have hz0 : w.heap.size + 1 < w1.heap.size := by have := hb1.size; simp at this; omega
    have hz1 : w1.heap.size < w2.heap.size := by have := hb2.size; simp at this; omega
    have a0 := ((HB.new w (lanes L) 23).alloc (.cells (lanes (zeros 25)) 23)).below hb1 (by simp; omega)
    have r0 := (new2 w (.cells (lanes L) 23) (lanes (zeros 25)) 23).below hb1 (by simp)
    have b0 : Below w.heap.size w w1 := (((Below.refl _ _).alloc (Nat.le_refl _) _).alloc (by simp) _).trans (hb1.mono (by simp; omega))
    have a1 := (((a0.alloc (.cells (ints (zeros 25)) 48)).rowOther w1.heap.size (ints turnsL) (by omega)).below hb2 (by simp; omega))
    have r1 := (((r0.alloc (.cells (ints (zeros 25)) 48)).rowOther w1.heap.size (ints turnsL) (by omega)).below hb2 (by simp; omega))
    have o1 := (((HB.new w1 (ints (zeros 25)) 48).row (ints turnsL)).below hb2 (by simp))
    have b1 : Below w.heap.size w w2 := (below_setRow (b0.alloc (by omega) _) (by omega) _).trans (hb2.mono (by simp; omega))
    exact ⟨(a1.alloc _).rowOther _ _ (by omega), (r1.alloc _).rowOther _ _ (by omega), (o1.alloc _).rowOther _ _ (by omega), (HB.new w2 _ 45).row _, below_setRow (b1.alloc (by omega) _) (by omega) _, hz0, hz1⟩
  change Code.wp _ _ _ _ ((w2.alloc (.cells (lanes (zeros 24)) 45)).setRow w2.heap.size (lanes consts))
  generalize (w2.alloc (.cells (lanes (zeros 24)) 45)).setRow w2.heap.size (lanes consts) = w3 at *
  clear hb1 hb2
  generalize w1.heap.size = mo at *
  generalize w2.heap.size = mc at *
  clear w1 w2
  go_wp2_with fail
  go_loopw [5] (fun i wr => ∃ k : Nat, k ≤ 24 ∧ i = .int .i64 k ∧ RMem w w.heap.size mo mc (permRK L k) wr) (fun i _ => 24 - (intOf i).toNat)
  case atStart => exact ⟨0, by omega, rfl, hm3⟩
  case round =>
    as_aux_lemma =>
    clear hm3 w3
    obtain ⟨k, hk, rfl, hm⟩ := hrel
    have HA : Hd ((permRK L k).length = 25) := ⟨(permRK_len L k).trans HL.out⟩
    by_cases hlt0 : k < 24
    · obtain ⟨A, hAA⟩ : ∃ A, A = permRK L k := ⟨_, rfl⟩
      rw [← hAA] at hm HA
      have HAA := Hd.mk hAA; clear hAA
      have hz := hm.lt
      have hz1 := hm.h1
      have hz2 := hm.h2
      have hki : (k : Int) < 24 := by omega
      go_upto_region 7 with fail
      have hbC := HB.new wr (lanes (zeros 5)) 46
      have hm1 := hm.alloc (.cells (lanes (zeros 5)) 46)
      change Code.wp _ _ _ _ (wr.alloc (.cells (lanes (zeros 5)) 46))
      generalize wr.alloc (.cells (lanes (zeros 5)) 46) = w1 at *
      clear hm
      generalize wr.heap.size = g at *
      clear wr
      go_wp2_with fail
      go_loopw [7] (fun i W => ∃ x : Nat, x ≤ 5 ∧ i = .int .i64 x ∧ HB W g (lanes (colR A x)) 46 ∧ RMem w w.heap.size mo mc A W) (fun i _ => 5 - (intOf i).toNat)
      case atStart => exact ⟨0, by omega, rfl, hbC, hm1⟩
      case round =>
        as_aux_lemma =>
        clear hbC hm1 w1
        obtain ⟨x, hx5, rfl, hbC, hm⟩ := hrel
        by_cases hlt : x < 5
        · obtain ⟨p1, hp1⟩ : ∃ p, p = x + 5 := ⟨_, rfl⟩
          obtain ⟨p2, hp2⟩ : ∃ p, p = x + 10 := ⟨_, rfl⟩
          obtain ⟨p3, hp3⟩ : ∃ p, p = x + 15 := ⟨_, rfl⟩
          obtain ⟨p4, hp4⟩ : ∃ p, p = x + 20 := ⟨_, rfl⟩
          have c0 := hm.a.lane x (by rw [HA.out]; omega)
          have c1 := hm.a.lane p1 (by rw [HA.out]; omega)
          have c2 := hm.a.lane p2 (by rw [HA.out]; omega)
          have c3 := hm.a.lane p3 (by rw [HA.out]; omega)
          have c4 := hm.a.lane p4 (by rw [HA.out]; omega)
          have cc := hbC.lane x (by rw [colR_len]; omega)
          have cf := hbC.free x
          have e1 : IntKind.i64.wrap ((x : Int) + 5) = (p1 : Int) := by rw [IntWalk.i64_in _ (by omega)]; omega
          have e2 : IntKind.i64.wrap ((x : Int) + 10) = (p2 : Int) := by rw [IntWalk.i64_in _ (by omega)]; omega
          have e3 : IntKind.i64.wrap ((x : Int) + 15) = (p3 : Int) := by rw [IntWalk.i64_in _ (by omega)]; omega
          have e4 : IntKind.i64.wrap ((x : Int) + 20) = (p4 : Int) := by rw [IntWalk.i64_in _ (by omega)]; omega
          have i0 : (x : Int) < 25 := by omega
          have i1 : (p1 : Int) < 25 := by omega
          have i2 : (p2 : Int) < 25 := by omega
          have i3 : (p3 : Int) < 25 := by omega
          have i4 : (p4 : Int) < 25 := by omega
          have i5 : (x : Int) < 5 := by omega
          obtain ⟨v, hv⟩ : ∃ v, v = xr (xr (xr (xr (nth A x) (nth A p1)) (nth A p2)) (nth A p3)) (nth A p4) := ⟨_, rfl⟩
          have HE : Hd (colR A (x + 1) = (colR A x).set x v) := ⟨by rw [hv, hp1, hp2, hp3, hp4]; rfl⟩
          have HV := Hd.mk hv
          clear hp1 hp2 hp3 hp4 hv
          go_upto_region 10 with fail
          refine wp_region_still_tail 25 (by kernel_rfl) (by kernel_rfl) ?_
          simp only [List.take_succ_cons, List.take_zero, List.drop_succ_cons, List.drop_zero]
          repeat still_step
          refine wpStill_nil ?_
          change wpList _ _ _ _ _ wr.drew
          clear e1 e2 e3 e4
          go_upto_region 9 with fail
          rw [← HV.out]
          have hb1 := hbC.drew.setLane x v
          rw [← HE.out] at hb1
          have hm1 := hm.drew.other ⟨g, x, none⟩ (.int .u64 (v : Int)) hz
          change Code.wp _ _ _ _ (wr.drew.setCell ⟨g, x, none⟩ (.int .u64 (v : Int)))
          generalize wr.drew.setCell ⟨g, x, none⟩ (.int .u64 (v : Int)) = w2 at *
          clear hm hbC c0 c1 c2 c3 c4 cc cf
          go_wp2
          exact ⟨⟨x + 1, by omega, by go_num, hb1, hm1⟩, by simp [intOf]; omega⟩
        · have hge : (5 : Int) ≤ (x : Int) := by omega
          obtain ⟨C, hC⟩ : ∃ C, C = colR A 5 := ⟨_, rfl⟩
          rw [show x = 5 by omega, ← hC] at hbC
          have HCL : Hd (C.length = 5) := ⟨by rw [hC]; exact colR_len A 5⟩
          have HCC := Hd.mk hC; clear hC
          have hbC0 := hbC; have hm0 := hm; clear hbC hm
          go_wp2_with fail
          go_loopw [8] (fun i W => ∃ x : Nat, x ≤ 5 ∧ i = .int .i64 x ∧ HB W g (lanes C) 46 ∧ RMem w w.heap.size mo mc (thR C A x) W) (fun i _ => 5 - (intOf i).toNat)
          case atStart => exact ⟨0, by omega, rfl, hbC0, hm0⟩
          case round =>
            as_aux_lemma =>
            clear hbC0 hm0
            obtain ⟨x, hx5, rfl, hbC, hm⟩ := hrel
            by_cases hlt : x < 5
            · obtain ⟨q4, hq4⟩ : ∃ q, q = (x + 4) % 5 := ⟨_, rfl⟩
              obtain ⟨q1, hq1⟩ : ∃ q, q = (x + 1) % 5 := ⟨_, rfl⟩
              have hq4l : q4 < 5 := by omega
              have hq1l : q1 < 5 := by omega
              have c4 := hbC.lane q4 (by rw [HCL.out]; omega)
              have c1 := hbC.lane q1 (by rw [HCL.out]; omega)
              have e1 : IntKind.i64.wrap ((x : Int) + 4) = (x : Int) + 4 := IntWalk.i64_in _ (by omega)
              have e2 : IntKind.i64.wrap ((x : Int) + 1) = (x : Int) + 1 := IntWalk.i64_in _ (by omega)
              have e3 : ((x : Int) + 4).tmod 5 = (q4 : Int) := by rw [Int.tmod_eq_emod_of_nonneg (by omega)]; omega
              have e4 : ((x : Int) + 1).tmod 5 = (q1 : Int) := by rw [Int.tmod_eq_emod_of_nonneg (by omega)]; omega
              have i4 : (q4 : Int) < 5 := by omega
              have i1 : (q1 : Int) < 5 := by omega
              obtain ⟨d, hd⟩ : ∃ d, d = xr (nth C q4) (rotR (nth C q1) 1) := ⟨_, rfl⟩
              have HD : Hd (d = thD C x) := ⟨by rw [hd, hq4, hq1]; rfl⟩
              have HDE := Hd.mk hd
              clear hq4 hq1 hd
              go_upto_region 14 with fail
              refine wp_region_still_lit (by kernel_rfl) (by kernel_rfl) ?_
              repeat still_step
              still_call (rotr_any _ 1 (by omega) _)
              repeat still_step
              refine wpStill_nil ?_
              clear e1 e2 e3 e4
              rw [← HDE.out]
              have i5 : (x : Int) < 5 := by omega
              go_wp2_with fail
              have hbC0 := hbC.drew; have hm0 := hm.drew
              change Code.wp _ _ _ _ wr.drew
              clear hbC hm c4 c1
              generalize wr.drew = w2 at *
              obtain ⟨T, hT⟩ : ∃ T, T = thR C A x := ⟨_, rfl⟩
              rw [← hT] at hm0
              have HTL : Hd (T.length = 25) := ⟨by rw [hT, thR_len]; exact HA.out⟩
              have HTE := Hd.mk hT; clear hT
              go_loopw [10] (fun i W => ∃ y : Nat, y ≤ 5 ∧ i = .int .i64 y ∧ HB W g (lanes C) 46 ∧ RMem w w.heap.size mo mc (thX d x T y) W) (fun i _ => 5 - (intOf i).toNat)
              case atStart => exact ⟨0, by omega, rfl, hbC0, hm0⟩
              case round =>
                as_aux_lemma =>
                clear hbC0 hm0
                obtain ⟨y, hy5, rfl, hbC, hm⟩ := hrel
                by_cases hlt : y < 5
                · have c := hm.a.lane (x + 5 * y) (by rw [thX_len, HTL.out]; omega)
                  have cf := hm.a.free (x + 5 * y)
                  have i6 : (y : Int) < 5 := by omega
                  obtain ⟨v, hv⟩ : ∃ v, v = xr (nth (thX d x T y) (x + 5 * y)) d := ⟨_, rfl⟩
                  have HV := Hd.mk hv; clear hv
                  go_upto_region 17 with fail
                  rw [← HV.out]
                  have hm1 := hm.lane (x + 5 * y) v
                  have hE : (thX d x T y).set (x + 5 * y) v = thX d x T (y + 1) := by rw [HV.out]; rfl
                  rw [hE] at hm1
                  have hb1 := hbC.other ⟨w.heap.size, x + 5 * y, none⟩ (.int .u64 (v : Int)) (by simp; omega)
                  generalize wr.setCell ⟨w.heap.size, x + 5 * y, none⟩ (.int .u64 (v : Int)) = w3 at *
                  clear hm hbC c cf hE
                  go_wp2
                  exact ⟨⟨y + 1, by omega, by go_num, hb1, hm1⟩, by simp [intOf]; omega⟩
                · obtain rfl : y = 5 := by omega
                  have hE : thX d x T 5 = thR C A (x + 1) := by rw [HTE.out, HD.out]; rfl
                  rw [hE] at hm
                  clear hE
                  go_wp2
                  exact ⟨⟨x + 1, by omega, by go_num, hbC, hm⟩, by simp [intOf]; omega⟩
            · have hge : (5 : Int) ≤ (x : Int) := by omega
              obtain ⟨A1, hA1⟩ : ∃ T, T = thR C A 5 := ⟨_, rfl⟩
              rw [show x = 5 by omega, ← hA1] at hm
              have HA1 : Hd (A1.length = 25) := ⟨by rw [hA1, thR_len]; exact HA.out⟩
              have HAE := Hd.mk hA1; clear hA1 hbC
              have hz := hm.lt
              go_upto_region 20 with fail
              have hbB := HB.new wr (lanes (zeros 25)) 23
              have hm1 := hm.alloc (.cells (lanes (zeros 25)) 23)
              change Code.wp _ _ _ _ (wr.alloc (.cells (lanes (zeros 25)) 23))
              generalize wr.alloc (.cells (lanes (zeros 25)) 23) = w1 at *
              clear hm
              generalize wr.heap.size = m at *
              clear wr
              go_wp2_with fail
              go_loopw [12] (fun i W => ∃ x : Nat, x ≤ 5 ∧ i = .int .i64 x ∧ HB W m (lanes (rpR A1 x)) 23 ∧ RMem w w.heap.size mo mc A1 W) (fun i _ => 5 - (intOf i).toNat)
              case atStart => exact ⟨0, by omega, rfl, hbB, hm1⟩
              case round =>
                as_aux_lemma =>
                clear hbB hm1 w1
                obtain ⟨x, hx5, rfl, hbB, hm⟩ := hrel
                by_cases hlt : x < 5
                · have i5 : (x : Int) < 5 := by omega
                  have hbB0 := hbB; have hm0 := hm; clear hbB hm
                  obtain ⟨T, hT⟩ : ∃ T, T = rpR A1 x := ⟨_, rfl⟩
                  rw [← hT] at hbB0
                  have HTL : Hd (T.length = 25) := ⟨by rw [hT, rpR_len]⟩
                  have HTE := Hd.mk hT; clear hT
                  go_wp2_with fail
                  go_loopw [13] (fun i W => ∃ y : Nat, y ≤ 5 ∧ i = .int .i64 y ∧ HB W m (lanes (rpX A1 x T y)) 23 ∧ RMem w w.heap.size mo mc A1 W) (fun i _ => 5 - (intOf i).toNat)
                  case atStart => exact ⟨0, by omega, rfl, hbB0, hm0⟩
                  case round =>
                    as_aux_lemma =>
                    clear hbB0 hm0
                    obtain ⟨y, hy5, rfl, hbB, hm⟩ := hrel
                    by_cases hlt : y < 5
                    · obtain ⟨x2, hx2⟩ : ∃ z, z = 2 * x := ⟨_, rfl⟩
                      obtain ⟨y3, hy3⟩ : ∃ z, z = 3 * y := ⟨_, rfl⟩
                      obtain ⟨sm, hsm⟩ : ∃ z, z = x2 + y3 := ⟨_, rfl⟩
                      obtain ⟨q, hq⟩ : ∃ z, z = sm % 5 := ⟨_, rfl⟩
                      obtain ⟨q5, hq5⟩ : ∃ z, z = 5 * q := ⟨_, rfl⟩
                      obtain ⟨ib, hib⟩ : ∃ z, z = y + q5 := ⟨_, rfl⟩
                      obtain ⟨y5, hy5e⟩ : ∃ z, z = 5 * y := ⟨_, rfl⟩
                      obtain ⟨p, hp⟩ : ∃ z, z = x + y5 := ⟨_, rfl⟩
                      have hpl : p < 25 := by omega
                      have hibl : ib < 25 := by omega
                      have ca := hm.a.lane p (by rw [HA1.out]; exact hpl)
                      have co := hm.o.intc p hpl
                      have hcb := hbB.lane ib (by rw [rpX_len, HTL.out]; exact hibl)
                      have hcf := hbB.free ib
                      have htl := turn_lt p hpl
                      obtain ⟨tl, hte⟩ : ∃ z, z = nth turnsL p := ⟨_, rfl⟩
                      rw [← hte] at co htl
                      have e1 : IntKind.i64.wrap (2 * (x : Int)) = (x2 : Int) := by rw [IntWalk.i64_in _ (by omega)]; omega
                      have e2 : IntKind.i64.wrap (3 * (y : Int)) = (y3 : Int) := by rw [IntWalk.i64_in _ (by omega)]; omega
                      have e3 : IntKind.i64.wrap ((x2 : Int) + (y3 : Int)) = (sm : Int) := by rw [IntWalk.i64_in _ (by omega)]; omega
                      have e4 : (sm : Int).tmod 5 = (q : Int) := by rw [Int.tmod_eq_emod_of_nonneg (by omega)]; omega
                      have e4' : (sm : Int) % 5 = (q : Int) := by omega
                      have e5 : IntKind.i64.wrap (5 * (q : Int)) = (q5 : Int) := by rw [IntWalk.i64_in _ (by omega)]; omega
                      have e6 : IntKind.i64.wrap ((y : Int) + (q5 : Int)) = (ib : Int) := by rw [IntWalk.i64_in _ (by omega)]; omega
                      have e7 : IntKind.i64.wrap (5 * (y : Int)) = (y5 : Int) := by rw [IntWalk.i64_in _ (by omega)]; omega
                      have e8 : IntKind.i64.wrap ((x : Int) + (y5 : Int)) = (p : Int) := by rw [IntWalk.i64_in _ (by omega)]; omega
                      have i0 : (p : Int) < 25 := by omega
                      have i1 : (ib : Int) < 25 := by omega
                      have i6 : (y : Int) < 5 := by omega
                      obtain ⟨v, hv⟩ : ∃ v, v = rotR (nth A1 p) tl := ⟨_, rfl⟩
                      have HE : Hd (rpX A1 x T (y + 1) = (rpX A1 x T y).set ib v) := ⟨by rw [hv, hte, hp, hy5e, hib, hq5, hq, hsm, hx2, hy3]; rfl⟩
                      have HV := Hd.mk hv
                      clear hx2 hy3 hsm hq hq5 hib hy5e hp hte hv
                      go_upto_region 26 with fail
                      refine wp_region_still_tail 23 (by kernel_rfl) (by kernel_rfl) ?_
                      simp only [List.take_succ_cons, List.take_zero, List.drop_succ_cons, List.drop_zero]
                      repeat still_step
                      still_call (rotr_any _ tl htl _)
                      repeat still_step
                      refine wpStill_nil ?_
                      change wpList _ _ _ _ _ wr.drew
                      clear e1 e2 e3 e4 e4' e5 e6 e7 e8
                      rw [← HV.out]
                      have hcb' : wr.drew.cell? ⟨m, ib, none⟩ = some (.int .u64 ((nth (rpX A1 x T y) ib : Nat) : Int)) := hcb
                      have hcf' : wr.drew.frozen? ⟨m, ib, none⟩ = false := hcf
                      have hb1 := hbB.drew.setLane ib v
                      rw [← HE.out] at hb1
                      have hm1 := hm.drew.other ⟨m, ib, none⟩ (.int .u64 (v : Int)) hz
                      clear hcb hcf ca co hm hbB
                      generalize wr.drew = w2 at *
                      go_upto_region 25 with fail
                      generalize w2.setCell ⟨m, ib, none⟩ (.int .u64 (v : Int)) = w3 at *
                      clear hcb' hcf'
                      go_wp2
                      exact ⟨⟨y + 1, by omega, by go_num, hb1, hm1⟩, by simp [intOf]; omega⟩
                    · obtain rfl : y = 5 := by omega
                      have hE : rpX A1 x T 5 = rpR A1 (x + 1) := by rw [HTE.out]; rfl
                      rw [hE] at hbB
                      clear hE
                      go_wp2
                      exact ⟨⟨x + 1, by omega, by go_num, hbB, hm⟩, by simp [intOf]; omega⟩
                · have hge : (5 : Int) ≤ (x : Int) := by omega
                  obtain ⟨B, hB⟩ : ∃ T, T = rpR A1 5 := ⟨_, rfl⟩
                  rw [show x = 5 by omega, ← hB] at hbB
                  have HBL : Hd (B.length = 25) := ⟨by rw [hB, rpR_len]⟩
                  have HBE := Hd.mk hB; clear hB
                  have hbB0 := hbB; have hm0 := hm; clear hbB hm
                  go_wp2_with fail
                  go_loopw [14] (fun i W => ∃ x : Nat, x ≤ 5 ∧ i = .int .i64 x ∧ HB W m (lanes B) 23 ∧ RMem w w.heap.size mo mc (chR B A1 x) W) (fun i _ => 5 - (intOf i).toNat)
                  case atStart => exact ⟨0, by omega, rfl, hbB0, hm0⟩
                  case round =>
                    as_aux_lemma =>
                    clear hbB0 hm0
                    obtain ⟨x, hx5, rfl, hbB, hm⟩ := hrel
                    by_cases hlt : x < 5
                    · have i5 : (x : Int) < 5 := by omega
                      have hbB0 := hbB; have hm0 := hm; clear hbB hm
                      obtain ⟨T, hT⟩ : ∃ T, T = chR B A1 x := ⟨_, rfl⟩
                      rw [← hT] at hm0
                      have HTL : Hd (T.length = 25) := ⟨by rw [hT, chR_len]; exact HA1.out⟩
                      have HTE := Hd.mk hT; clear hT
                      go_wp2_with fail
                      go_loopw [15] (fun i W => ∃ y : Nat, y ≤ 5 ∧ i = .int .i64 y ∧ HB W m (lanes B) 23 ∧ RMem w w.heap.size mo mc (chX B x T y) W) (fun i _ => 5 - (intOf i).toNat)
                      case atStart => exact ⟨0, by omega, rfl, hbB0, hm0⟩
                      case round =>
                        as_aux_lemma =>
                        clear hbB0 hm0
                        obtain ⟨y, hy5, rfl, hbB, hm⟩ := hrel
                        by_cases hlt : y < 5
                        · obtain ⟨q1, hq1⟩ : ∃ q, q = (x + 1) % 5 := ⟨_, rfl⟩
                          obtain ⟨q2, hq2⟩ : ∃ q, q = (x + 2) % 5 := ⟨_, rfl⟩
                          obtain ⟨y5, hy5e⟩ : ∃ z, z = 5 * y := ⟨_, rfl⟩
                          obtain ⟨p0, hp0⟩ : ∃ z, z = x + y5 := ⟨_, rfl⟩
                          obtain ⟨p1, hp1⟩ : ∃ z, z = q1 + y5 := ⟨_, rfl⟩
                          obtain ⟨p2, hp2⟩ : ∃ z, z = q2 + y5 := ⟨_, rfl⟩
                          have c0 := hbB.lane p0 (by rw [HBL.out]; omega)
                          have c1 := hbB.lane p1 (by rw [HBL.out]; omega)
                          have c2 := hbB.lane p2 (by rw [HBL.out]; omega)
                          have ca := hm.a.lane p0 (by rw [chX_len, HTL.out]; omega)
                          have cf := hm.a.free p0
                          have e1 : IntKind.i64.wrap ((x : Int) + 1) = (x : Int) + 1 := IntWalk.i64_in _ (by omega)
                          have e2 : IntKind.i64.wrap ((x : Int) + 2) = (x : Int) + 2 := IntWalk.i64_in _ (by omega)
                          have e3 : ((x : Int) + 1).tmod 5 = (q1 : Int) := by rw [Int.tmod_eq_emod_of_nonneg (by omega)]; omega
                          have e4 : ((x : Int) + 2).tmod 5 = (q2 : Int) := by rw [Int.tmod_eq_emod_of_nonneg (by omega)]; omega
                          have e5 : IntKind.i64.wrap (5 * (y : Int)) = (y5 : Int) := by rw [IntWalk.i64_in _ (by omega)]; omega
                          have e6 : IntKind.i64.wrap ((x : Int) + (y5 : Int)) = (p0 : Int) := by rw [IntWalk.i64_in _ (by omega)]; omega
                          have e7 : IntKind.i64.wrap ((q1 : Int) + (y5 : Int)) = (p1 : Int) := by rw [IntWalk.i64_in _ (by omega)]; omega
                          have e8 : IntKind.i64.wrap ((q2 : Int) + (y5 : Int)) = (p2 : Int) := by rw [IntWalk.i64_in _ (by omega)]; omega
                          have i0 : (p0 : Int) < 25 := by omega
                          have i1 : (p1 : Int) < 25 := by omega
                          have i2 : (p2 : Int) < 25 := by omega
                          have i6 : (y : Int) < 5 := by omega
                          obtain ⟨v, hv⟩ : ∃ v, v = xr (nth B p0) (an (nt (nth B p1)) (nth B p2)) := ⟨_, rfl⟩
                          have HV2 : Hd (bits .xor .u64 ((nth B p0 : Nat) : Int) (bits .and .u64 (bits .xor .u64 (if IntKind.u64.signed = true then -1 else IntKind.u64.max) ((nth B p1 : Nat) : Int)) ((nth B p2 : Nat) : Int)) = (v : Int)) := ⟨by rw [if_neg (by decide), bits_nt, bits_an, bits_xr, hv]⟩
                          have HE : Hd (chX B x T (y + 1) = (chX B x T y).set p0 v) := ⟨by rw [hv, hp0, hp1, hp2, hq1, hq2, hy5e]; rfl⟩
                          have HV := Hd.mk hv
                          clear hq1 hq2 hy5e hp0 hp1 hp2 hv
                          go_upto_region 33 with fail
                          refine wp_region_still_tail 30 (by kernel_rfl) (by kernel_rfl) ?_
                          simp only [List.take_succ_cons, List.take_zero, List.drop_succ_cons, List.drop_zero]
                          repeat still_step
                          refine wpStill_nil ?_
                          change wpList _ _ _ _ _ wr.drew
                          clear e1 e2 e3 e4 e5 e6 e7 e8
                          have ca' : wr.drew.cell? ⟨w.heap.size, p0, none⟩ = some (.int .u64 ((nth (chX B x T y) p0 : Nat) : Int)) := ca
                          have cf' : wr.drew.frozen? ⟨w.heap.size, p0, none⟩ = false := cf
                          have hm1 := hm.drew.lane p0 v
                          rw [← HE.out] at hm1
                          have hb1 := hbB.drew.other ⟨w.heap.size, p0, none⟩ (.int .u64 (v : Int)) (by simp; omega)
                          clear ca cf c0 c1 c2 hm hbB
                          generalize wr.drew = w2 at *
                          go_upto_region 32 with fail
                          first | rw [HV2.out] | rw [← HV.out]
                          generalize w2.setCell ⟨w.heap.size, p0, none⟩ (.int .u64 (v : Int)) = w3 at *
                          clear ca' cf'
                          go_wp2
                          exact ⟨⟨y + 1, by omega, by go_num, hb1, hm1⟩, by simp [intOf]; omega⟩
                        · obtain rfl : y = 5 := by omega
                          have hE : chX B x T 5 = chR B A1 (x + 1) := by rw [HTE.out]; rfl
                          rw [hE] at hm
                          clear hE
                          go_wp2
                          exact ⟨⟨x + 1, by omega, by go_num, hbB, hm⟩, by simp [intOf]; omega⟩
                    · have hge : (5 : Int) ≤ (x : Int) := by omega
                      obtain ⟨A2, hA2⟩ : ∃ T, T = chR B A1 5 := ⟨_, rfl⟩
                      rw [show x = 5 by omega, ← hA2] at hm
                      have HA2 : Hd (A2.length = 25) := ⟨by rw [hA2, chR_len]; exact HA1.out⟩
                      have HE : Hd (permRK L (k + 1) = A2.set 0 (xr (nth A2 0) (nth consts k))) := ⟨by rw [hA2, HBE.out, HAE.out, HCC.out, HAA.out]; rfl⟩
                      clear hA2 hbB
                      have c0 := hm.a.lane 0 (by rw [HA2.out]; omega)
                      have cf := hm.a.free 0
                      have ck := hm.c.lane k hlt0
                      obtain ⟨v, hv⟩ : ∃ v, v = xr (nth A2 0) (nth consts k) := ⟨_, rfl⟩
                      have HV := Hd.mk hv
                      rw [← hv] at HE
                      clear hv
                      go_upto_region 34 with fail
                      refine wp_region_still_tail 7 (by kernel_rfl) (by kernel_rfl) ?_
                      simp only [List.take_succ_cons, List.take_zero, List.drop_succ_cons, List.drop_zero]
                      repeat still_step
                      refine wpStill_nil ?_
                      change wpList _ _ _ _ _ wr.drew
                      rw [← HV.out]
                      have c0' : wr.drew.cell? ⟨w.heap.size, 0, none⟩ = some (.int .u64 ((nth A2 0 : Nat) : Int)) := c0
                      have cf' : wr.drew.frozen? ⟨w.heap.size, 0, none⟩ = false := cf
                      have hm1 := hm.drew.lane 0 v
                      rw [← HE.out] at hm1
                      clear c0 cf ck hm
                      generalize wr.drew = w2 at *
                      go_upto_region 5 with fail
                      generalize w2.setCell ⟨w.heap.size, 0, none⟩ (.int .u64 (v : Int)) = w3 at *
                      clear c0' cf'
                      go_wp2
                      exact ⟨⟨k + 1, by omega, by go_num, hm1⟩, by simp [intOf]; omega⟩
    · obtain rfl : k = 24 := by omega
      have hS : (Tryd.prog.info? 23).map (·.size) = some (lanes (permRK L 24)).size := by
        rw [lanes_size, HA.out]; kernel_rfl
      have hlz : (lanes (zeros 25)).size = (lanes (permRK L 24)).size := by rw [lanes_size, lanes_size, HA.out]; rfl
      obtain ⟨R, hRe⟩ : ∃ R, R = permRK L 24 := ⟨_, rfl⟩
      rw [← hRe] at hm hS hlz
      have HRE := Hd.mk hRe; clear hRe HA
      go_wp2_with (first
        | refine wpList_load_row rfl 23 _ rfl w.heap.size rfl 23 (lanes R) (0,0) _ hm.a.heap Tryd.underlying23 rfl hS ?_
        | refine wpList_store_row rfl 23 _ _ rfl (w.heap.size + 1) (lanes R) rfl rfl 23 (lanes (zeros 25)) hm.r.heap hS hlz (lanes_one _) ?_)
      exact bodyPost_ret (v := .agg (lanes R)) (results_cell_row rfl _ _ (w.heap.size + 1) 23 (lanes R) (0, 0) _ rfl (hm.r.row _).heap Tryd.underlying23 rfl hS) rfl ⟨by rw [HRE.out], below_setRow hm.b (by omega) _⟩
end Go.Proofs.YtkinhfaehfldjaaDoor
