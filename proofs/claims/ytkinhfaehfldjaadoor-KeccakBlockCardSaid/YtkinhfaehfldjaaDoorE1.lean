/- The reference's Sum: what its loops compute, and that it is the hash. No program's function in sight. -/
import Derived.Test.YtkinhfaehfldjaaDoorE0
import Derived.Test.YtkinhfaehfldjaaDoorR5
namespace Go.Proofs.YtkinhfaehfldjaaDoor

/-- how many zeros stand behind the first padding byte -/
def padZ (n : Nat) : Nat := 135 - n % 136
def ref0 (bs : List Nat) (k : Nat) : List Nat := bs ++ 1 :: List.replicate k 0
def refPad (bs : List Nat) : List Nat := (ref0 bs (padZ bs.length)).set (bs.length + padZ bs.length) (or8 (nth (ref0 bs (padZ bs.length)) (bs.length + padZ bs.length)) 128)
def refBlk (m : List Nat) (b : Nat) : List Nat := (m.drop (136 * b)).take 136
def refStep (m : List Nat) (b : Nat) (A : List Nat) : List Nat := blockN A (refBlk m b)
def refK (m : List Nat) (k : Nat) : List Nat := iter (refStep m) (zeros 25) k
theorem ref0_len (bs : List Nat) (k : Nat) : (ref0 bs k).length = bs.length + 1 + k := by simp [ref0]; omega
theorem refPad_len (bs : List Nat) : (refPad bs).length = bs.length + 1 + padZ bs.length := by unfold refPad; rw [List.length_set, ref0_len]
theorem ref0_snoc (bs : List Nat) (k : Nat) : ref0 bs (k + 1) = ref0 bs k ++ [0] := by simp [ref0, List.replicate_succ']
theorem refBlk_len (m : List Nat) (b : Nat) (h : 136 * b + 136 ≤ m.length) : (refBlk m b).length = 136 := by simp [refBlk]; omega
theorem refK_succ (m : List Nat) (k : Nat) : refK m (k + 1) = blockN (refK m k) (refBlk m k) := by simp only [refK, iter, refStep]
theorem nth_refBlk (m : List Nat) (b i : Nat) (h : i < 136) : nth (refBlk m b) i = nth m (136 * b + i) := by unfold refBlk; rw [nth_take _ _ _ h, nth_drop]

theorem absN_state {A : List Nat} (h : State A) (bs : List Nat) (k : Nat) : State (absN A bs k) := iter_state (fun _ _ hA => set_state hA _ _ (xr_lt _ _)) h k
theorem blockN_state {A : List Nat} (h : State A) (bs : List Nat) : State (blockN A bs) := by
  unfold blockN permN
  exact permK_state _ (absN_state h bs _) 24
theorem refK_state (m : List Nat) (k : Nat) : State (refK m k) := iter_state (fun _ _ hA => blockN_state hA _) zeros_state k

theorem absA_rest_mod (k : Nat) : ∀ (L a : List Nat), a.length ≤ k → (absA L a).2.length % 136 = a.length % 136 := by
  induction k with
  | zero =>
    intro L a h
    rw [absA_done L a (by omega)]
  | succ k ih =>
    intro L a h
    by_cases h1 : 136 ≤ a.length
    · rw [absA_step L a h1, ih _ _ (by rw [List.length_drop]; omega), List.length_drop]
      omega
    · rw [absA_done L a (by omega)]
theorem absA_rest_len (L a : List Nat) : (absA L a).2.length = a.length % 136 := by
  have h1 := absA_rest_mod _ L a (Nat.le_refl _)
  have h2 := (absA_rest _ L a (Nat.le_refl _)).1
  rw [Nat.mod_eq_of_lt h2] at h1
  exact h1
theorem absA_refK (m : List Nat) (q : Nat) (hq : m.length = 136 * q) : ∀ k, k ≤ q → absA (zeros 25) m = absA (refK m k) (m.drop (136 * k)) := by
  intro k
  induction k with
  | zero => intro _; simp [refK, iter]
  | succ k ih =>
    intro hk
    rw [ih (by omega), absA_step _ _ (by rw [List.length_drop]; omega), refK_succ, List.drop_drop]
    rfl
theorem absA_all (m : List Nat) (q : Nat) (hq : m.length = 136 * q) : absA (zeros 25) m = (refK m q, []) := by
  rw [absA_refK m q hq q (Nat.le_refl _), List.drop_of_length_le (by omega), absA_done _ _ (by simp)]
def tailP (z : Nat) : List Nat := (1 :: List.replicate z 0).set z (or8 (nth (1 :: List.replicate z 0) z) 128)
theorem tailP_len (z : Nat) : (tailP z).length = z + 1 := by simp [tailP]
theorem ref0_set (xs : List Nat) (z : Nat) : (ref0 xs z).set (xs.length + z) (or8 (nth (ref0 xs z) (xs.length + z)) 128) = xs ++ tailP z := by
  unfold ref0 tailP
  rw [nth_append_right, List.set_append_right _ _ (by omega), Nat.add_sub_cancel_left]
theorem refPad_tail (bs : List Nat) : refPad bs = bs ++ tailP (padZ bs.length) := ref0_set bs _
theorem pad0_ref0 (xs : List Nat) (h : xs.length < 136) : pad0 xs = ref0 xs (135 - xs.length) := by
  unfold pad0 ref0
  rw [List.set_append_right _ _ (Nat.le_refl _), Nat.sub_self, show 136 - xs.length = (135 - xs.length) + 1 by omega, List.replicate_succ]
  rfl
theorem padN_tail (xs : List Nat) (h : xs.length < 136) : padN xs = xs ++ tailP (135 - xs.length) := by
  have h1 := ref0_set xs (135 - xs.length)
  rw [show xs.length + (135 - xs.length) = 135 by omega] at h1
  unfold padN
  rw [pad0_ref0 xs h]
  exact h1
theorem refPad_mod (bs : List Nat) : (refPad bs).length % 136 = 0 := by
  rw [refPad_len]; unfold padZ; omega
theorem nth_zeros (k j : Nat) : nth (List.replicate k 0) j = 0 := by
  unfold nth
  rw [List.getD_eq_getElem?_getD, List.getElem?_replicate]
  split <;> rfl
theorem or8_lt (x y : Nat) : or8 x y < 256 := Nat.mod_lt _ (by decide)
theorem refPad_oct (bs : List Nat) (h : ∀ i, i < bs.length → nth bs i < 256) (i : Nat) : nth (refPad bs) i < 256 := by
  unfold refPad
  rw [nth_set]
  split
  · exact or8_lt _ _
  · by_cases h1 : i < bs.length
    · have h2 : nth (ref0 bs (padZ bs.length)) i = nth bs i := nth_append_left _ _ _ h1
      rw [h2]; exact h i h1
    · obtain ⟨j, rfl⟩ : ∃ j, i = bs.length + j := ⟨i - bs.length, by omega⟩
      have h2 : nth (ref0 bs (padZ bs.length)) (bs.length + j) = nth (1 :: List.replicate (padZ bs.length) 0) j := nth_append_right _ _ _
      rw [h2]
      cases j with
      | zero => show (1 : Nat) < 256; decide
      | succ j =>
        have h3 : nth (1 :: List.replicate (padZ bs.length) 0) (j + 1) = nth (List.replicate (padZ bs.length) 0) j := by unfold nth; simp
        rw [h3, nth_zeros]; decide
/-- THE REFERENCE'S SUM IS THE HASH. -/
theorem ref_sum (bs : List Nat) (q : Nat) (hq : (refPad bs).length = 136 * q) : outN (refK (refPad bs) q) = hashN bs := by
  have h1 := absA_all (refPad bs) q hq
  have hl := absA_rest_len (zeros 25) bs
  have hlt : (absA (zeros 25) bs).2.length < 136 := (absA_rest _ (zeros 25) bs (Nat.le_refl _)).1
  have h2 : absA (zeros 25) (refPad bs) = (blockN (absA (zeros 25) bs).1 (padN (absA (zeros 25) bs).2), []) := by
    rw [refPad_tail, ← absA_append _ bs.length (zeros 25) bs (Nat.le_refl _), show padZ bs.length = 135 - (absA (zeros 25) bs).2.length by rw [hl]; rfl, ← padN_tail _ hlt]
    have hp := padN_len _ hlt
    rw [absA_step _ _ (by omega), absA_done _ _ (by rw [List.length_drop]; omega), List.take_of_length_le (by omega), List.drop_of_length_le (by omega)]
  have h3 := congrArg Prod.fst (h1.symm.trans h2)
  simp only at h3
  unfold hashN sumN
  rw [h3]
end Go.Proofs.YtkinhfaehfldjaaDoor
