/- The walks of the reference's rot, offsets and constants. -/
import Derived.Test.YtkinhfaehfldjaaDoorB1
namespace Go.Proofs.YtkinhfaehfldjaaDoor
open Go.RowKit

def rotR (x n : Nat) : Nat := if n = 0 then x else rotl x n
theorem rotr_any (x k : Nat) (hk : k < 64) (w : World) :
    Calls Tryd.prog 23 #[.int .u64 (x : Int), .int .i64 (k : Int)] w fun e w' => e = .returned (.int .u64 ((rotR x k : Nat) : Int)) ∧ w' = w := by
  unfold rotR
  by_cases h0 : k = 0
  · subst h0
    rw [if_pos rfl]
    go_enter Tryd.func23, Tryd.ntmps23
    go_wp2
    go_ret
    exact ⟨rfl, rfl⟩
  · rw [if_neg h0]
    have h1 : ((k : Int) == 0) = false := by simp; omega
    go_enter Tryd.func23, Tryd.ntmps23
    go_wp2
    go_ret
    refine ⟨ret_int ?_, rfl⟩
    rw [wrap_shl, div_shr, bits_orr]; rfl
def offStep (t : Nat) (s : List Nat × Nat × Nat) : List Nat × Nat × Nat := (s.1.set (s.2.1 + 5 * s.2.2) ((t + 1) * (t + 2) / 2 % 64), s.2.2, (2 * s.2.1 + 3 * s.2.2) % 5)
def offK (k : Nat) : List Nat × Nat × Nat := iter offStep (zeros 25, 1, 0) k
theorem offK_ok (k : Nat) : (offK k).1.length = 25 ∧ (offK k).2.1 < 5 ∧ (offK k).2.2 < 5 := by
  induction k with
  | zero => exact ⟨rfl, by decide, by decide⟩
  | succ k ih =>
    show ((offStep k (offK k)).1.length = 25 ∧ _)
    simp only [offStep, List.length_set]
    exact ⟨ih.1, ih.2.2, Nat.mod_lt _ (by decide)⟩
theorem off_is : (offK 24).1 = turnsL := by kernel_rfl
theorem ints_set (L : List Nat) (i n : Nat) : (ints L).setIfInBounds i (.int .i64 (n : Int)) = ints (L.set i n) := by
  simp [ints, List.map_set]
theorem ints_size (L : List Nat) : (ints L).size = L.length := by simp [ints]
theorem ints_one (L : List Nat) : (ints L).all (·.oneCell') = true := by simp [ints, Value.oneCell']
theorem HB.setInt {W : World} {g : Nat} {L : List Nat} {t : TypeId} (h : HB W g (ints L) t) (i n : Nat) : HB (W.setCell ⟨g, i, none⟩ (.int .i64 (n : Int))) g (ints (L.set i n)) t := by
  rw [← ints_set]; exact h.set i _

set_option maxHeartbeats 1000000 in
theorem offsets_any (w : World) : Calls Tryd.prog 21 #[] w fun e w' => e = .returned (.agg (ints turnsL)) ∧ Below w.heap.size w w' := by
  go_enter Tryd.func21, Tryd.ntmps21
  go_wp2_with fail
  go_loopw [2, 3, 4] (fun x y i W => ∃ k : Nat, k ≤ 24 ∧ i = .int .i64 k ∧ x = .int .i64 ((offK k).2.1 : Nat) ∧ y = .int .i64 ((offK k).2.2 : Nat) ∧ HB W w.heap.size (ints (zeros 25)) 48 ∧ HB W (w.heap.size + 1) (ints (offK k).1) 48 ∧ Below w.heap.size w W) (fun _ _ i _ => 24 - (intOf i).toNat)
  case atStart => exact ⟨0, by omega, rfl, rfl, rfl, (HB.new w _ _).alloc _, new2 w _ _ _, ((Below.refl _ _).alloc (Nat.le_refl _) _).alloc (by simp) _⟩
  case round =>
    obtain ⟨k, hk, rfl, rfl, rfl, hr, ho, hb⟩ := hrel
    obtain ⟨o1, o2, o3⟩ := offK_ok k
    by_cases hlt : k < 24
    · obtain ⟨O, hO⟩ : ∃ O, O = (offK k).1 := ⟨_, rfl⟩
      obtain ⟨x, hx⟩ : ∃ x, x = (offK k).2.1 := ⟨_, rfl⟩
      obtain ⟨y, hy⟩ : ∃ x, x = (offK k).2.2 := ⟨_, rfl⟩
      have HE : Hd (offK (k + 1) = (O.set (x + 5 * y) ((k + 1) * (k + 2) / 2 % 64), y, (2 * x + 3 * y) % 5)) := ⟨by rw [hO, hx, hy]; rfl⟩
      rw [← hO] at o1 ho
      rw [← hx] at o2 ⊢
      rw [← hy] at o3 ⊢
      clear hO hx hy
      have hc := ho.intc (x + 5 * y) (by omega)
      have hf := ho.free (x + 5 * y)
      have hp : (k + 1) * (k + 2) ≤ 25 * 26 := Nat.mul_le_mul (by omega) (by omega)
      have HM : Hd ((wrap64 ((wrap64 (((k : Int) + 1) * ((k : Int) + 2))).tdiv 2)).tmod 64 = (((k + 1) * (k + 2) / 2 % 64 : Nat) : Int)) := ⟨by
        have e : ((k : Int) + 1) * ((k : Int) + 2) = (((k + 1) * (k + 2) : Nat) : Int) := by rw [Int.natCast_mul]; rfl
        rw [e]
        generalize (k + 1) * (k + 2) = q at *
        have e1 : wrap64 (q : Int) = (q : Int) := IntWalk.wrap64_in _ (by omega)
        rw [e1, Int.tdiv_eq_ediv_of_nonneg (by omega)]
        have e2 : wrap64 ((q : Int) / 2) = (q : Int) / 2 := IntWalk.wrap64_in _ (by omega)
        rw [e2, Int.tmod_eq_emod_of_nonneg (by omega)]
        omega⟩
      clear hp
      go_wp2
      rw [HM.out]
      refine ⟨⟨k + 1, by omega, by go_num, by rw [HE.out], ?_, hr.other _ _ (by simp), ?_, hb.setCell (by simp) _⟩, by simp [intOf]; omega⟩
      · rw [HE.out]; congr 1
      · rw [HE.out]; exact ho.setInt _ _
    · obtain rfl : k = 24 := by omega
      rw [off_is] at ho
      have hS : (Tryd.prog.info? 48).map (·.size) = some (ints turnsL).size := by kernel_rfl
      go_wp2_with (first
        | refine wpList_load_row rfl 48 _ rfl (w.heap.size + 1) rfl 48 (ints turnsL) (0,0) _ ho.heap Tryd.underlying48 rfl hS ?_
        | refine wpList_store_row rfl 48 _ _ rfl w.heap.size (ints turnsL) rfl rfl 48 (ints (zeros 25)) hr.heap hS rfl (ints_one _) ?_)
      exact bodyPost_ret (v := .agg (ints turnsL)) (results_cell_row rfl _ _ w.heap.size 48 (ints turnsL) (0, 0) _ rfl (hr.row _).heap Tryd.underlying48 rfl hS) rfl ⟨rfl, below_setRow hb (by omega) _⟩

def regStep (r : Nat) : Nat := if 2 * r &&& 256 = 0 then 2 * r else 2 * r ^^^ 256 ^^^ 64 ^^^ 32 ^^^ 16 ^^^ 1
def conStep (t : Nat) (s : List Nat × Nat) : List Nat × Nat := (s.1.set (t / 7) (orr (nth s.1 (t / 7)) (shlw (s.2 &&& 1) (2 ^ (t % 7) - 1))), regStep s.2)
def conK (k : Nat) : List Nat × Nat := iter conStep (zeros 24, 1) k
theorem con_is : (conK 168).1 = consts := by kernel_rfl
theorem regStep_lt (r : Nat) (h : r < 256) : regStep r < 256 := by
  have hall : ∀ r, r < 256 → regStep r < 256 := by decide +kernel
  exact hall r h
theorem conK_ok (k : Nat) : (conK k).1.length = 24 ∧ (conK k).2 < 256 := by
  induction k with
  | zero => exact ⟨rfl, by decide⟩
  | succ k ih =>
    show ((conStep k (conK k)).1.length = 24 ∧ _)
    simp only [conStep, List.length_set]
    exact ⟨ih.1, regStep_lt _ ih.2⟩
theorem ofInt_i64 (a : Nat) (ha : a < 9223372036854775808) : (BitVec.ofInt 64 (a : Int)).toNat = a := by
  rw [BitVec.ofInt_natCast, BitVec.toNat_ofNat]; exact Nat.mod_eq_of_lt (by omega)
theorem i64_and_nat (a b : Nat) (ha : a < 9223372036854775808) (hb : b < 9223372036854775808) : bits .and .i64 (a : Int) (b : Int) = ((a &&& b : Nat) : Int) := by
  have hx : a &&& b < 2 ^ 63 := Nat.and_lt_two_pow _ (by omega)
  show IntKind.i64.wrap ((BitVec.ofInt 64 (a : Int) &&& BitVec.ofInt 64 (b : Int)).toNat : Int) = _
  rw [BitVec.toNat_and, ofInt_i64 a ha, ofInt_i64 b hb, IntKind.wrap_i64]
  omega
theorem i64_xor_nat (a b : Nat) (ha : a < 9223372036854775808) (hb : b < 9223372036854775808) : bits .xor .i64 (a : Int) (b : Int) = ((a ^^^ b : Nat) : Int) := by
  have hx : a ^^^ b < 2 ^ 63 := Nat.xor_lt_two_pow (by omega) (by omega)
  show IntKind.i64.wrap ((BitVec.ofInt 64 (a : Int) ^^^ BitVec.ofInt 64 (b : Int)).toNat : Int) = _
  rw [BitVec.toNat_xor, ofInt_i64 a ha, ofInt_i64 b hb, IntKind.wrap_i64]
  omega
set_option maxRecDepth 100000 in
set_option maxHeartbeats 1000000 in
theorem constants_any (w : World) : Calls Tryd.prog 22 #[] w fun e w' => e = .returned (.agg (lanes consts)) ∧ Below w.heap.size w w' := by
  go_enter Tryd.func22, Tryd.ntmps22
  go_wp2_with fail
  go_loopw [2, 3] (fun r i W => ∃ k : Nat, k ≤ 168 ∧ i = .int .i64 k ∧ r = .int .i64 ((conK k).2 : Nat) ∧ HB W w.heap.size (lanes (zeros 24)) 45 ∧ HB W (w.heap.size + 1) (lanes (conK k).1) 45 ∧ Below w.heap.size w W) (fun _ i _ => 168 - (intOf i).toNat)
  case atStart => exact ⟨0, by omega, rfl, rfl, (HB.new w _ _).alloc _, new2 w _ _ _, ((Below.refl _ _).alloc (Nat.le_refl _) _).alloc (by simp) _⟩
  case round =>
    obtain ⟨k, hk, rfl, rfl, hr, ho, hb⟩ := hrel
    obtain ⟨o1, o2⟩ := conK_ok k
    by_cases hlt : k < 168
    · obtain ⟨O, hO⟩ : ∃ O, O = (conK k).1 := ⟨_, rfl⟩
      obtain ⟨x, hx⟩ : ∃ x, x = (conK k).2 := ⟨_, rfl⟩
      have HE : Hd (conK (k + 1) = (O.set (k / 7) (orr (nth O (k / 7)) (shlw (x &&& 1) (2 ^ (k % 7) - 1))), regStep x)) := ⟨by rw [hO, hx]; rfl⟩
      rw [← hO] at o1 ho
      rw [← hx] at o2 ⊢
      clear hO hx
      have hc := ho.lane (k / 7) (by omega)
      have hf := ho.free (k / 7)
      obtain ⟨xa, hxa⟩ : ∃ a, a = x &&& 1 := ⟨_, rfl⟩
      rw [← hxa] at HE
      have b1 : bits .and .i64 (x : Int) 1 = (xa : Int) := by rw [hxa]; exact i64_and_nat x 1 (by omega) (by omega)
      have hxal : xa ≤ 1 := by rw [hxa, Nat.and_one_is_mod]; omega
      clear hxa
      have b2 : bits .and .i64 ((x : Int) * 2) 256 = ((2 * x &&& 256 : Nat) : Int) := by
        have := i64_and_nat (2 * x) 256 (by omega) (by omega)
        rw [← this]; congr 1; omega
      obtain ⟨t, ht⟩ : ∃ t, t = 2 * x &&& 256 := ⟨_, rfl⟩
      rw [← ht] at b2
      have HT := Hd.mk ht
      clear ht
      have HV : Hd (bits .or .u64 ((nth O (k / 7) : Nat) : Int) (IntKind.u64.wrap ((xa : Int) * 2 ^ min (IntKind.u64.wrap (IntKind.u64.wrap (2 ^ (k % 7)) - 1)).toNat 64)) = ((orr (nth O (k / 7)) (shlw xa (2 ^ (k % 7) - 1)) : Nat) : Int)) := ⟨by
        have hp : 1 ≤ 2 ^ (k % 7) ∧ 2 ^ (k % 7) ≤ 64 := by
          have h7 : k % 7 < 7 := Nat.mod_lt _ (by decide)
          have hall : ∀ j, j < 7 → 1 ≤ 2 ^ j ∧ 2 ^ j ≤ 64 := by decide
          exact hall _ h7
        have e0 : ((2 : Int) ^ (k % 7)) = ((2 ^ (k % 7) : Nat) : Int) := by simp
        rw [e0]
        generalize 2 ^ (k % 7) = p at *
        have e1 : IntKind.u64.wrap (p : Int) = (p : Int) := IntWalk.u64_in _ (by omega)
        have e2 : IntKind.u64.wrap ((p : Int) - 1) = (p : Int) - 1 := IntWalk.u64_in _ (by omega)
        have e3 : ((p : Int) - 1).toNat = p - 1 := by omega
        rw [e1, e2, e3, wrap_shl_min _ _ (by omega), bits_orr]⟩
      go_wp2
      · have ht : t ≠ 0 := by
          intro h; subst h
          have hh : ((((0 : Nat) : Int)) != 0) = true := by assumption
          simp at hh
        have hx : bits .xor .i64 (bits .xor .i64 (bits .xor .i64 (bits .xor .i64 (bits .xor .i64 ((x : Int) * 2) 256) 64) 32) 16) 1 = ((regStep x : Nat) : Int) := by
          have hall : ∀ x : Nat, x < 256 → (2 * x ^^^ 256) < 512 ∧ (2 * x ^^^ 256 ^^^ 64) < 512 ∧ (2 * x ^^^ 256 ^^^ 64 ^^^ 32) < 512 ∧ (2 * x ^^^ 256 ^^^ 64 ^^^ 32 ^^^ 16) < 512 := by decide +kernel
          obtain ⟨h1, h2, h3, h4⟩ := hall x o2
          have c1 : bits .xor .i64 ((x : Int) * 2) 256 = ((2 * x ^^^ 256 : Nat) : Int) := by
            have := i64_xor_nat (2 * x) 256 (by omega) (by omega)
            rw [← this]; congr 1; omega
          have c2 := i64_xor_nat (2 * x ^^^ 256) 64 (by omega) (by omega)
          have c3 := i64_xor_nat (2 * x ^^^ 256 ^^^ 64) 32 (by omega) (by omega)
          have c4 := i64_xor_nat (2 * x ^^^ 256 ^^^ 64 ^^^ 32) 16 (by omega) (by omega)
          have c5 := i64_xor_nat (2 * x ^^^ 256 ^^^ 64 ^^^ 32 ^^^ 16) 1 (by omega) (by omega)
          rw [c1]
          refine (congrArg (fun z => bits .xor .i64 (bits .xor .i64 (bits .xor .i64 z 32) 16) 1) c2).trans ?_
          refine (congrArg (fun z => bits .xor .i64 (bits .xor .i64 z 16) 1) c3).trans ?_
          refine (congrArg (fun z => bits .xor .i64 z 1) c4).trans ?_
          refine c5.trans ?_
          unfold regStep
          rw [← HT.out, if_neg ht]
        rw [HV.out, hx]
        refine ⟨⟨k + 1, by omega, by go_num, by rw [HE.out], hr.other _ _ (by simp), ?_, hb.setCell (by simp) _⟩, by simp [intOf]; omega⟩
        rw [HE.out]; exact ho.setLane _ _
      · have ht : t = 0 := by
          have hh : ((t : Int) != 0) = false := by assumption
          simpa using hh
        have hx : (x : Int) * 2 = ((regStep x : Nat) : Int) := by
          unfold regStep
          rw [← HT.out, if_pos ht]; omega
        rw [HV.out, hx]
        refine ⟨⟨k + 1, by omega, by go_num, by rw [HE.out], hr.other _ _ (by simp), ?_, hb.setCell (by simp) _⟩, by simp [intOf]; omega⟩
        rw [HE.out]; exact ho.setLane _ _
    · obtain rfl : k = 168 := by omega
      rw [con_is] at ho
      have hS : (Tryd.prog.info? 45).map (·.size) = some (lanes consts).size := by rw [lanes_size]; kernel_rfl
      go_wp2_with (first
        | refine wpList_load_row rfl 45 _ rfl (w.heap.size + 1) rfl 45 (lanes consts) (0,0) _ ho.heap Tryd.underlying45 rfl hS ?_
        | refine wpList_store_row rfl 45 _ _ rfl w.heap.size (lanes consts) rfl rfl 45 (lanes (zeros 24)) hr.heap hS (by rw [lanes_size, lanes_size]; rfl) (lanes_one _) ?_)
      exact bodyPost_ret (v := .agg (lanes consts)) (results_cell_row rfl _ _ w.heap.size 45 (lanes consts) (0, 0) _ rfl (hr.row _).heap Tryd.underlying45 rfl hS) rfl ⟨rfl, below_setRow hb (by omega) _⟩
end Go.Proofs.YtkinhfaehfldjaaDoor
