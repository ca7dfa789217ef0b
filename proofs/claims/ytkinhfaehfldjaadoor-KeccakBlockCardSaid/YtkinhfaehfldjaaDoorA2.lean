/- The walk of keccak.Permute: it hands back what the plain function 'permN' says, and writes only in new memory. -/
import Derived.Test.YtkinhfaehfldjaaDoorA0
import Derived.Deep.LoopGhost
import Derived.BigQuiet
import Derived.Deep.QuietTactic
import Derived.StillTailTactics
import Derived.Deep.Cut
namespace Go.Proofs.YtkinhfaehfldjaaDoor
open Go.RowKit
def consts : List Nat := [1, 32898, 9223372036854808714, 9223372039002292224, 32907, 2147483649, 9223372039002292353, 9223372036854808585, 138, 136, 2147516425, 2147483658, 2147516555, 9223372036854775947, 9223372036854808713, 9223372036854808579, 9223372036854808578, 9223372036854775936, 32778, 9223372039002259466, 9223372039002292353, 9223372036854808704, 2147483649, 9223372039002292232]
def turnsL : List Nat := [0, 1, 62, 28, 27, 36, 44, 6, 55, 20, 3, 10, 43, 25, 39, 41, 45, 15, 21, 8, 18, 2, 61, 56, 14]
def placesL : List Nat := [0, 10, 20, 5, 15, 16, 1, 11, 21, 6, 7, 17, 2, 12, 22, 23, 8, 18, 3, 13, 14, 24, 9, 19, 4]
def zeros (n : Nat) : List Nat := List.replicate n 0
def ints (L : List Nat) : Array Value := (L.map fun n : Nat => Value.int .i64 (n : Int)).toArray
theorem ints_get (L : List Nat) (i : Nat) (h : i < L.length) : (ints L)[i]? = some (.int .i64 ((nth L i : Nat) : Int)) := by
  simp [ints, nth, List.getElem?_eq_getElem h]
theorem HB.intc {W : World} {g : Nat} {L : List Nat} {t : TypeId} (h : HB W g (ints L) t) (i : Nat) (hi : i < L.length) : W.cell? ⟨g, i, none⟩ = some (.int .i64 ((nth L i : Nat) : Int)) := by
  rw [h.cell, ints_get L i hi]
def stepC (A : List Nat) (k : Nat) (C : List Nat) : List Nat := C.set (k % 5) (xr (nth C (k % 5)) (nth A k))
def colsN (A : List Nat) (k : Nat) : List Nat := iter (stepC A) (zeros 5) k
def thetaV (A C : List Nat) (k : Nat) : Nat := xr (nth A k) (xr (nth C ((k + 4) % 5)) (rotl (nth C ((k + 1) % 5)) 1))
def stepB (A C : List Nat) (k : Nat) (B : List Nat) : List Nat := B.set (nth placesL k) (rotl (thetaV A C k) (nth turnsL k))
def turnN (A C : List Nat) (k : Nat) : List Nat := iter (stepB A C) (zeros 25) k
def chiV (B : List Nat) (y x : Nat) : Nat := xr (nth B (y + x)) (an (nt (nth B (y + (x + 1) % 5))) (nth B (y + (x + 2) % 5)))
def stepX (B : List Nat) (y x : Nat) (A : List Nat) : List Nat := A.set (y + x) (chiV B y x)
def rowN (B : List Nat) (y : Nat) (A : List Nat) (k : Nat) : List Nat := iter (stepX B y) A k
def stepY (B : List Nat) (q : Nat) (A : List Nat) : List Nat := rowN B (5 * q) A 5
def chiN (B A : List Nat) (k : Nat) : List Nat := iter (stepY B) A k
def iotaN (c : Nat) (A : List Nat) : List Nat := A.set 0 (xr (nth A 0) c)
def roundN (i : Nat) (A : List Nat) : List Nat := iotaN (nth consts i) (chiN (turnN A (colsN A 25) 25) A 5)
def permK (A : List Nat) (k : Nat) : List Nat := iter roundN A k
def permN (A : List Nat) : List Nat := permK A 24

theorem iter_len {f : Nat → List Nat → List Nat} (hf : ∀ i s, (f i s).length = s.length) (s : List Nat) : ∀ k, (iter f s k).length = s.length
  | 0 => rfl
  | k + 1 => (hf k _).trans (iter_len hf s k)
theorem colsN_len (A : List Nat) (k : Nat) : (colsN A k).length = 5 := iter_len (fun _ _ => by simp [stepC]) _ k
theorem turnN_len (A C : List Nat) (k : Nat) : (turnN A C k).length = 25 := (iter_len (fun _ _ => by simp [stepB]) _ k).trans (by simp [zeros])
theorem rowN_len (B : List Nat) (y : Nat) (A : List Nat) (k : Nat) : (rowN B y A k).length = A.length := iter_len (fun _ _ => by simp [stepX]) _ k
theorem chiN_len (B A : List Nat) (k : Nat) : (chiN B A k).length = A.length := iter_len (fun _ _ => rowN_len _ _ _ _) _ k
theorem roundN_len (i : Nat) (A : List Nat) : (roundN i A).length = A.length := by simp [roundN, iotaN, chiN_len]
theorem permK_len (A : List Nat) (k : Nat) : (permK A k).length = A.length := iter_len roundN_len _ k
theorem turn_lt : ∀ k, k < 25 → nth turnsL k < 64 := by decide
theorem place_lt : ∀ k, k < 25 → nth placesL k < 25 := by decide

structure Vars (w : World) : Prop where
  c : ∃ t, HB w 0 (lanes consts) t
  t : ∃ t, HB w 1 (ints turnsL) t
  p : ∃ t, HB w 2 (ints placesL) t
theorem Vars.below {B : Nat} {w w' : World} (h : Vars w) (hb : Below B w w') (hB : 3 ≤ B) : Vars w' :=
  ⟨h.c.imp fun _ x => x.below hb (by omega), h.t.imp fun _ x => x.below hb (by omega), h.p.imp fun _ x => x.below hb (by omega)⟩

/-- what is known of memory inside Permute's round -/
structure PMem (w : World) (n g : Nat) (A : List Nat) (wr : World) : Prop where
  a : HB wr n (lanes A) 23
  r : HB wr (n + 1) (lanes (zeros 25)) 23
  b : Below n w wr
theorem PMem.alloc {w wr : World} {n g : Nat} {A : List Nat} (h : PMem w n g A wr) (o : Obj) : PMem w n g A (wr.alloc o) :=
  ⟨h.a.alloc o, h.r.alloc o, h.b.alloc (by have := h.a.lt; omega) o⟩
theorem PMem.drew {w wr : World} {n g : Nat} {A : List Nat} (h : PMem w n g A wr) : PMem w n g A wr.drew := ⟨h.a.drew, h.r.drew, h.b.drew⟩
theorem PMem.other {w wr : World} {n g : Nat} {A : List Nat} (h : PMem w n g A wr) (p : Addr) (v : Value) (hp : n + 2 ≤ p.block) : PMem w n g A (wr.setCell p v) :=
  ⟨h.a.other p v (by omega), h.r.other p v (by omega), h.b.setCell (by omega) v⟩
theorem PMem.lane {w wr : World} {n g : Nat} {A : List Nat} (h : PMem w n g A wr) (i x : Nat) : PMem w n g (A.set i x) (wr.setCell ⟨n, i, none⟩ (.int .u64 (x : Int))) :=
  ⟨h.a.setLane i x, h.r.other _ _ (by simp), h.b.setCell (by simp) _⟩
theorem new2 (w : World) (o : Obj) (cs : Array Value) (t : TypeId) : HB ((w.alloc o).alloc (.cells cs t)) (w.heap.size + 1) cs t := by
  have h := HB.new (w.alloc o) cs t
  simpa using h
theorem size_setCell (w : World) (p : Addr) (v : Value) : (w.setCell p v).heap.size = w.heap.size := by simp [World.setCell]

set_option maxRecDepth 100000 in
set_option maxHeartbeats 1000000 in
theorem perm_any (L : List Nat) (hL : L.length = 25) (w : World) (hv : Vars w) (hn : 3 ≤ w.heap.size) :
    Calls Tryd.prog 11 #[.agg (lanes L)] w fun e w' => e = .returned (.agg (lanes (permN L))) ∧ Below w.heap.size w w' := by
  have hx := bits_xr
  have ha := bits_an
  have hnt := bits_nt
  obtain ⟨tc, hg0⟩ := hv.c
  have HL := Hd.mk hL; clear hL
  go_enter Tryd.func11, Tryd.ntmps11
  go_wp2_with (refine wpList_load_row rfl 45 _ rfl 0 rfl tc (lanes consts) (0,0) _ ((hg0.alloc _).alloc _).heap Tryd.underlying45 rfl (by rw [lanes_size]; kernel_rfl) ?_)
  go_loopw [14] (fun i wr => ∃ k : Nat, k ≤ 24 ∧ i = .int .i64 k ∧ PMem w w.heap.size 0 (permK L k) wr) (fun i _ => 24 - (intOf i).toNat)
  case atStart => exact ⟨0, by omega, rfl, (HB.new w _ _).alloc _, new2 w _ _ _, ((Below.refl _ _).alloc (Nat.le_refl _) _).alloc (by simp) _⟩
  case round =>
    obtain ⟨k, hk, rfl, hm⟩ := hrel
    have HA : Hd ((permK L k).length = 25) := ⟨(permK_len L k).trans HL.out⟩
    by_cases hlt : k < 24
    · have hz : w.heap.size + 1 < wr.heap.size := hm.r.lt
      have hi1 := run_index_lanes (P := Tryd.prog) 45 22 24 _ consts k Tryd.underlying45 Tryd.underlying22 rfl rfl rfl hlt
      obtain ⟨A, hAA⟩ : ∃ A, A = permK L k := ⟨_, rfl⟩
      rw [← hAA] at hm HA
      have HAA := Hd.mk hAA; clear hAA
      go_wp2_with (refine wpList_load_row rfl 23 _ rfl w.heap.size rfl 23 (lanes A) (0,0) _ (hm.a.alloc _).heap Tryd.underlying23 rfl (by rw [lanes_size, HA.out]; kernel_rfl) ?_)
      have hbC := HB.new wr (lanes (zeros 5)) 46
      have hm1 := hm.alloc (.cells (lanes (zeros 5)) 46)
      change Code.wp _ _ _ _ (wr.alloc (.cells (lanes (zeros 5)) 46))
      have hz1 : (wr.alloc (.cells (lanes (zeros 5)) 46)).heap.size = wr.heap.size + 1 := by simp
      generalize wr.alloc (.cells (lanes (zeros 5)) 46) = w1 at *
      clear hm
      generalize wr.heap.size = g at *
      have HZ := Hd.mk hz1; clear hz1 wr
      go_loopw [18] (fun i W => ∃ j : Nat, j ≤ 25 ∧ i = .int .i64 j ∧ HB W g (lanes (colsN A j)) 46 ∧ PMem w w.heap.size 0 A W ∧ Hd (W.heap.size = g + 1)) (fun i _ => 25 - (intOf i).toNat)
      case atStart => exact ⟨0, by omega, rfl, hbC, hm1, HZ⟩
      case round =>
        clear hbC hm1 HZ w1
        obtain ⟨j, hj, rfl, hbC, hm, HZ⟩ := hrel
        by_cases hlt : j < 25
        · have hi2 := run_index_lanes (P := Tryd.prog) 23 22 25 _ A j Tryd.underlying23 Tryd.underlying22 rfl rfl HA.out hlt
          have hc := hbC.lane (j % 5) (by rw [colsN_len]; omega)
          have hf := hbC.free (j % 5)
          go_wp2
          refine ⟨⟨j + 1, by omega, by go_num, hbC.setLane _ _, hm.other _ _ hz, ⟨(size_setCell _ _ _).trans HZ.out⟩⟩, by simp [intOf]; omega⟩
        · obtain rfl : j = 25 := by omega
          generalize hCC : colsN A 25 = C at *
          have HCL : Hd (C.length = 5) := ⟨hCC ▸ colsN_len A 25⟩
          have HCC := Hd.mk hCC; clear hCC
          go_wp2_with (refine wpList_load_row rfl 23 _ rfl w.heap.size rfl 23 (lanes A) (0,0) _ (hm.a.alloc _).heap Tryd.underlying23 rfl (by rw [lanes_size, HA.out]; kernel_rfl) ?_)
          have hbB := HB.new wr (lanes (zeros 25)) 23
          have hbC1 := hbC.alloc (.cells (lanes (zeros 25)) 23)
          have hm1 := hm.alloc (.cells (lanes (zeros 25)) 23)
          change Code.wp _ _ _ _ (wr.alloc (.cells (lanes (zeros 25)) 23))
          have hgm : g < wr.heap.size := hbC.lt
          generalize wr.alloc (.cells (lanes (zeros 25)) 23) = w1 at *
          clear hm hbC
          generalize wr.heap.size = m at *
          clear HZ wr
          go_loopw [31] (fun i W => ∃ j : Nat, j ≤ 25 ∧ i = .int .i64 j ∧ HB W m (lanes (turnN A C j)) 23 ∧ HB W g (lanes C) 46 ∧ PMem w w.heap.size 0 A W) (fun i _ => 25 - (intOf i).toNat)
          case atStart => exact ⟨0, by omega, rfl, hbB, hbC1, hm1⟩
          case round =>
            clear hbB hbC1 hm1 w1
            obtain ⟨j, hj, rfl, hbB, hbC, hm⟩ := hrel
            by_cases hlt : j < 25
            · have hi3 := run_index_lanes (P := Tryd.prog) 23 22 25 _ A j Tryd.underlying23 Tryd.underlying22 rfl rfl HA.out hlt
              have hv' := hv.below hm.b hn
              obtain ⟨q4, hq4⟩ : ∃ x, x = (j + 4) % 5 := ⟨_, rfl⟩
              obtain ⟨q1, hq1⟩ : ∃ x, x = (j + 1) % 5 := ⟨_, rfl⟩
              have hq4l : q4 < 5 := by omega
              have hq1l : q1 < 5 := by omega
              have hc1 := hbC.lane q4 (by rw [HCL.out]; omega)
              have hc2 := hbC.lane q1 (by rw [HCL.out]; omega)
              have e1 : IntKind.i64.wrap ((j : Int) + 4) = (j : Int) + 4 := IntWalk.i64_in _ (by omega)
              have e2 : IntKind.i64.wrap ((j : Int) + 1) = (j : Int) + 1 := IntWalk.i64_in _ (by omega)
              have e3 : ((j : Int) + 4).tmod 5 = (q4 : Int) := by rw [Int.tmod_eq_emod_of_nonneg (by omega)]; omega
              have e4 : ((j : Int) + 1).tmod 5 = (q1 : Int) := by rw [Int.tmod_eq_emod_of_nonneg (by omega)]; omega
              have i4 : (q4 : Int) < 5 := by omega
              have i1 : (q1 : Int) < 5 := by omega
              have ij : (j : Int) < 25 := by omega
              have HQ4 := Hd.mk hq4; have HQ1 := Hd.mk hq1; clear hq4 hq1
              go_upto_region 14 with fail
              refine wp_region_still_lit (by kernel_rfl) (by kernel_rfl) ?_
              still_step
              repeat still_step
              still_call (rot_any _ 1 (by omega) _)
              repeat still_step
              refine wpStill_nil ?_
              clear e3 e4 e1 e2
              go_upto_region 15 with fail
              change Code.wp _ _ _ _ wr.drew
              have hbB2 := hbB.drew
              have hbC2 := hbC.drew
              have hm2 := hm.drew
              have hv2 : Vars wr.drew := hv.below hm2.b hn
              clear hbB hbC hm hv' hc1 hc2
              generalize wr.drew = w2 at *
              obtain ⟨_, hp⟩ := hv2.p.imp fun _ x => x.intc j hlt
              obtain ⟨_, ht⟩ := hv2.t.imp fun _ x => x.intc j hlt
              have hpl := place_lt j hlt
              have htl := turn_lt j hlt
              have hf := hbB2.free (nth placesL j)
              have hcb := hbB2.lane (nth placesL j) (by rw [turnN_len]; exact hpl)
              obtain ⟨pl, hpe⟩ : ∃ x, x = nth placesL j := ⟨_, rfl⟩
              obtain ⟨tl, hte⟩ : ∃ x, x = nth turnsL j := ⟨_, rfl⟩
              rw [← hpe] at hp hpl hf hcb
              rw [← hte] at ht htl
              have HPE := Hd.mk hpe; have HTE := Hd.mk hte; clear hpe hte
              have ip : (pl : Int) < 25 := by omega
              refine wp_region_still_tail 9 (by kernel_rfl) (by kernel_rfl) ?_
              simp only [List.take_succ_cons, List.take_zero, List.drop_succ_cons, List.drop_zero]
              repeat still_step
              still_call (rot_any _ tl htl _)
              repeat still_step
              refine wpStill_nil ?_
              change wpList _ _ _ _ _ w2.drew
              go_wp2
              have hnew := hbB2.drew.setLane pl (rotl (xr (nth A j) (xr (nth C q4) (rotl (nth C q1) 1))) tl)
              have hT : turnN A C (j + 1) = (turnN A C j).set pl (rotl (xr (nth A j) (xr (nth C q4) (rotl (nth C q1) 1))) tl) := by
                rw [HPE.out, HTE.out, HQ4.out, HQ1.out]; rfl
              rw [← hT] at hnew
              exact ⟨⟨j + 1, by omega, by go_num, hnew, hbC2.drew.other _ _ (by simp; omega), hm2.drew.other _ _ (by simp; omega)⟩, by simp [intOf]; omega⟩
            · obtain rfl : j = 25 := by omega
              clear hbC
              generalize hBB : turnN A C 25 = B at *
              have HBL : Hd (B.length = 25) := ⟨hBB ▸ turnN_len A C 25⟩
              have HBB := Hd.mk hBB; clear hBB
              go_wp2_with fail
              clear hi1
              have hbB0 := hbB; have hm0 := hm; clear hbB hm
              go_loopw [11] (fun y W => ∃ q : Nat, q ≤ 5 ∧ y = .int .i64 ((5 * q : Nat) : Int) ∧ HB W m (lanes B) 23 ∧ PMem w w.heap.size 0 (chiN B A q) W) (fun y _ => 25 - (intOf y).toNat)
              case atStart => exact ⟨0, by omega, rfl, hbB0, hm0⟩
              case round =>
                clear hbB0 hm0
                obtain ⟨q, hq, rfl, hbB, hm⟩ := hrel
                have HAq : Hd ((chiN B A q).length = 25) := ⟨(chiN_len B A q).trans HA.out⟩
                by_cases hlt : q < 5
                · obtain ⟨Aq, hAq⟩ : ∃ x, x = chiN B A q := ⟨_, rfl⟩
                  rw [← hAq] at hm HAq
                  have HAQ := Hd.mk hAq; clear hAq
                  obtain ⟨y, hy⟩ : ∃ x, x = 5 * q := ⟨_, rfl⟩
                  rw [← hy]
                  have hyl : y ≤ 20 := by omega
                  have HY := Hd.mk hy; clear hy
                  have hyi : (y : Int) < 25 := by omega
                  go_wp2_with fail
                  have hbB0 := hbB; have hm0 := hm; clear hbB hm
                  go_loopw [63] (fun x W => ∃ j : Nat, j ≤ 5 ∧ x = .int .i64 j ∧ HB W m (lanes B) 23 ∧ PMem w w.heap.size 0 (rowN B y Aq j) W) (fun x _ => 5 - (intOf x).toNat)
                  case atStart => exact ⟨0, by omega, rfl, hbB0, hm0⟩
                  case round =>
                    clear hbB0 hm0
                    obtain ⟨j, hj, rfl, hbB, hm⟩ := hrel
                    by_cases hlt : j < 5
                    · obtain ⟨q2, hq2⟩ : ∃ x, x = (j + 2) % 5 := ⟨_, rfl⟩
                      obtain ⟨q1, hq1⟩ : ∃ x, x = (j + 1) % 5 := ⟨_, rfl⟩
                      obtain ⟨p0, hp0⟩ : ∃ x, x = y + j := ⟨_, rfl⟩
                      obtain ⟨p1, hp1⟩ : ∃ x, x = y + q1 := ⟨_, rfl⟩
                      obtain ⟨p2, hp2⟩ : ∃ x, x = y + q2 := ⟨_, rfl⟩
                      have c0 := hbB.lane p0 (by rw [HBL.out]; omega)
                      have c1 := hbB.lane p1 (by rw [HBL.out]; omega)
                      have c2 := hbB.lane p2 (by rw [HBL.out]; omega)
                      have ca := hm.a.lane p0 (by rw [rowN_len, HAq.out]; omega)
                      have cf := hm.a.free p0
                      have e1 : IntKind.i64.wrap ((j : Int) + 1) = (j : Int) + 1 := IntWalk.i64_in _ (by omega)
                      have e2 : IntKind.i64.wrap ((j : Int) + 2) = (j : Int) + 2 := IntWalk.i64_in _ (by omega)
                      have e3 : ((j : Int) + 1).tmod 5 = (q1 : Int) := by rw [Int.tmod_eq_emod_of_nonneg (by omega)]; omega
                      have e4 : ((j : Int) + 2).tmod 5 = (q2 : Int) := by rw [Int.tmod_eq_emod_of_nonneg (by omega)]; omega
                      have e5 : IntKind.i64.wrap ((y : Int) + (j : Int)) = (p0 : Int) := by rw [IntWalk.i64_in _ (by omega)]; omega
                      have e6 : IntKind.i64.wrap ((y : Int) + (q1 : Int)) = (p1 : Int) := by rw [IntWalk.i64_in _ (by omega)]; omega
                      have e7 : IntKind.i64.wrap ((y : Int) + (q2 : Int)) = (p2 : Int) := by rw [IntWalk.i64_in _ (by omega)]; omega
                      have i0 : (p0 : Int) < 25 := by omega
                      have i1 : (p1 : Int) < 25 := by omega
                      have i2 : (p2 : Int) < 25 := by omega
                      have HE : Hd (chiV B y j = xr (nth B p0) (an (nt (nth B p1)) (nth B p2)) ∧ p0 = y + j) := ⟨by rw [hp0, hp1, hp2, hq1, hq2]; exact ⟨rfl, rfl⟩⟩
                      clear hq1 hq2 hp0 hp1 hp2
                      go_upto_region 23 with fail
                      refine wp_region_still_tail 26 (by kernel_rfl) (by kernel_rfl) ?_
                      simp only [List.take_succ_cons, List.take_zero, List.drop_succ_cons, List.drop_zero]
                      repeat still_step
                      refine wpStill_nil ?_
                      change wpList _ _ _ _ _ wr.drew
                      clear e1 e2 e3 e4 e5 e6 e7
                      go_wp2
                      have hmn := hm.drew.lane p0 (xr (nth B p0) (an (nt (nth B p1)) (nth B p2)))
                      have hR : rowN B y Aq (j + 1) = (rowN B y Aq j).set p0 (xr (nth B p0) (an (nt (nth B p1)) (nth B p2))) := by
                        rw [← HE.out.1, HE.out.2]; rfl
                      rw [← hR] at hmn
                      exact ⟨⟨j + 1, by omega, by go_num, hbB.drew.other _ _ (by simp; omega), hmn⟩, by simp [intOf]; omega⟩
                    · obtain rfl : j = 5 := by omega
                      have hR : chiN B A (q + 1) = rowN B y Aq 5 := by rw [HAQ.out, HY.out]; rfl
                      rw [← hR] at hm
                      go_wp2
                      refine ⟨⟨q + 1, by omega, ?_, hbB, hm⟩, by simp [intOf]; omega⟩
                      have := HY.out
                      congr 1; omega
                · obtain rfl : q = 5 := by omega
                  have hc0 := hm.a.lane 0 (by rw [HAq.out]; omega)
                  have hf0 := hm.a.free 0
                  go_wp2
                  have hmn := hm.lane 0 (xr (nth (chiN B A 5) 0) (nth consts k))
                  have hR : permK L (k + 1) = (chiN B A 5).set 0 (xr (nth (chiN B A 5) 0) (nth consts k)) := by
                    rw [← HBB.out, ← HCC.out, HAA.out]; rfl
                  rw [← hR] at hmn
                  exact ⟨⟨k + 1, by omega, by go_num, hmn⟩, by simp [intOf]; omega⟩
    · obtain rfl : k = 24 := by omega
      have hS : (Tryd.prog.info? 23).map (·.size) = some (lanes (permN L)).size := by
        rw [lanes_size, show (permN L).length = 25 from HA.out]; kernel_rfl
      have hlz : (lanes (zeros 25)).size = (lanes (permN L)).size := by rw [lanes_size, lanes_size, show (permN L).length = 25 from HA.out]; rfl
      go_wp2_with (first
        | refine wpList_load_row rfl 23 _ rfl w.heap.size rfl 23 (lanes (permN L)) (0,0) _ hm.a.heap Tryd.underlying23 rfl hS ?_
        | refine wpList_store_row rfl 23 _ _ rfl (w.heap.size + 1) (lanes (permN L)) rfl rfl 23 (lanes (zeros 25)) hm.r.heap hS hlz (lanes_one _) ?_)
      refine bodyPost_ret (v := .agg (lanes (permN L))) (results_cell_row rfl _ _ (w.heap.size + 1) 23 (lanes (permN L)) (0, 0) _ rfl (hm.r.row _).heap Tryd.underlying23 rfl hS) rfl ⟨rfl, below_setRow hm.b (by omega) _⟩
end Go.Proofs.YtkinhfaehfldjaaDoor
