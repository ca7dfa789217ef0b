/- The law KeccakBlock, the plain part: bytes padded by '^' and gathered into lanes by '|' are what the hash absorbs. No program's function in sight. -/
import Derived.Test.YtkinhfaehfldjaaDoorE1
namespace Go.Proofs.YtkinhfaehfldjaaDoor
open Go.RowKit

def xor8 (x y : Nat) : Nat := (x ^^^ y) % 256
theorem bits_xor8 (x y : Nat) : bits .xor .u8 (x : Int) (y : Int) = ((xor8 x y : Nat) : Int) := by
  show IntKind.u8.wrap ((BitVec.ofInt 8 (x : Int) ^^^ BitVec.ofInt 8 (y : Int)).toNat : Int) = _
  have h : ∀ n : Nat, (BitVec.ofInt 8 (n : Int)).toNat = n % 2 ^ 8 := fun n => by rw [BitVec.ofInt_natCast, BitVec.toNat_ofNat]
  rw [BitVec.toNat_xor, h, h, ← Nat.xor_mod_two_pow, IntKind.wrap_u8]
  unfold xor8
  omega
def fillK (bs : List Nat) (k : Nat) : List Nat := iter (fun i l => l.set i (nth bs i)) (zeros 136) k
theorem fillK_succ (bs : List Nat) (k : Nat) : fillK bs (k + 1) = (fillK bs k).set k (nth bs k) := by simp only [fillK, iter]
theorem fillK_zero (bs : List Nat) : fillK bs 0 = zeros 136 := by simp only [fillK, iter]
theorem fillK_len (bs : List Nat) (k : Nat) : (fillK bs k).length = 136 := (iter_len (fun _ _ => by simp) _ k).trans (by simp [zeros])
theorem fillK_eq (bs : List Nat) (h : bs.length ≤ 136) : ∀ k, k ≤ bs.length → fillK bs k = bs.take k ++ List.replicate (136 - k) 0
  | 0, _ => by rw [fillK_zero]; rfl
  | k + 1, hk => by
    rw [fillK_succ, fillK_eq bs h k (by omega), show 136 - k = (136 - (k + 1)) + 1 by omega, List.replicate_succ]
    have hl : (bs.take k).length = k := by rw [List.length_take]; omega
    rw [List.set_append_right _ _ (by omega), hl, Nat.sub_self, List.set_cons_zero, List.take_succ_eq_append_getElem (by omega : k < bs.length), List.append_assoc]
    have : nth bs k = bs[k]'(by omega) := by unfold nth; rw [List.getD_eq_getElem?_getD, List.getElem?_eq_getElem (by omega : k < bs.length)]; rfl
    rw [this]; rfl
def padX (bs : List Nat) : List Nat := (fillK bs bs.length).set bs.length (xor8 (nth (fillK bs bs.length) bs.length) 1)
def padY (bs : List Nat) : List Nat := (padX bs).set 135 (xor8 (nth (padX bs) 135) 128)
theorem padX_pad0 (bs : List Nat) (h : bs.length < 136) : padX bs = pad0 bs := by
  unfold padX pad0
  rw [fillK_eq bs (by omega) bs.length (Nat.le_refl _), List.take_length]
  have h0 := nth_append_right bs (List.replicate (136 - bs.length) 0) 0
  rw [Nat.add_zero] at h0
  rw [h0, nth_zeros]
  rfl
theorem padY_padN (bs : List Nat) (h : bs.length < 136) : padY bs = padN bs := by
  unfold padY padN
  rw [padX_pad0 bs h]
  congr 1
  have h1 : nth (pad0 bs) 135 = 0 ∨ nth (pad0 bs) 135 = 1 := by
    rw [pad0_ref0 bs h]
    unfold ref0
    obtain ⟨i, hi⟩ : ∃ i, 135 = bs.length + i := ⟨135 - bs.length, by omega⟩
    rw [hi, nth_append_right]
    cases i with
    | zero => right; rfl
    | succ i =>
      left
      have h3 : nth (1 :: List.replicate (bs.length + (i + 1) - bs.length) 0) (i + 1) = nth (List.replicate (bs.length + (i + 1) - bs.length) 0) i := by unfold nth; simp
      rw [h3, nth_zeros]
  rcases h1 with h1 | h1 <;> rw [h1] <;> decide
theorem padY_len (bs : List Nat) : (padY bs).length = 136 := by unfold padY padX; rw [List.length_set, List.length_set, fillK_len]

def orStep (p : List Nat) (i : Nat) (A : List Nat) : List Nat := A.set (i / 8) (orr (nth A (i / 8)) (shlw (nth p i) (8 * (i % 8))))
def orK (p : List Nat) (k : Nat) : List Nat := iter (orStep p) (zeros 25) k
theorem orK_succ (p : List Nat) (k : Nat) : orK p (k + 1) = (orK p k).set (k / 8) (orr (nth (orK p k) (k / 8)) (shlw (nth p k) (8 * (k % 8)))) := by simp only [orK, iter, orStep]
theorem orK_zero (p : List Nat) : orK p 0 = zeros 25 := by simp only [orK, iter]
theorem orK_len (p : List Nat) (k : Nat) : (orK p k).length = 25 := (iter_len (fun _ _ => by simp [orStep]) _ k).trans (by simp [zeros])
theorem absN_succ (A bs : List Nat) (k : Nat) : absN A bs (k + 1) = (absN A bs k).set (k / 8) (xr (nth (absN A bs k) (k / 8)) (shlw (nth bs k) (8 * (k % 8)))) := by simp only [absN, iter, absStep]
/-- Low bits and high bits: '|' is '^'. -/
theorem orr_xr (x b s : Nat) (hx : x < 2 ^ s) : orr x (shlw b s) = xr x (shlw b s) := by
  refine eq_of_bits (Nat.mod_lt _ (by decide)) (xr_lt _ _) fun j hj => ?_
  rw [xr_bit _ _ _ hj]
  have h1 : (orr x (shlw b s)).testBit j = (x.testBit j || (shlw b s).testBit j) := by
    unfold orr; rw [Nat.testBit_mod_two_pow, Nat.testBit_or]; simp [hj]
  rw [h1]
  by_cases hjs : j < s
  · have h2 : (shlw b s).testBit j = false := by
      unfold shlw; rw [Nat.testBit_mod_two_pow, Nat.testBit_shiftLeft]; simp; omega
    rw [h2]; simp
  · have h2 : x.testBit j = false := Nat.testBit_lt_two_pow (Nat.lt_of_lt_of_le hx (Nat.pow_le_pow_right (by decide) (by omega)))
    rw [h2]; simp
theorem shlw_lt (b s : Nat) (hb : b < 256) : shlw b s < 2 ^ (s + 8) := by
  unfold shlw
  refine Nat.lt_of_le_of_lt (Nat.mod_le _ _) ?_
  rw [Nat.shiftLeft_eq, Nat.pow_add, Nat.mul_comm]
  exact Nat.mul_lt_mul_of_pos_left hb (Nat.pow_pos (by decide))
theorem xr_small (x y s : Nat) (hx : x < 2 ^ s) (hy : y < 2 ^ s) : xr x y < 2 ^ s :=
  Nat.lt_of_le_of_lt (Nat.mod_le _ _) (Nat.xor_lt_two_pow hx hy)
theorem orK_absN (p : List Nat) (hp : ∀ i, nth p i < 256) : ∀ k, k ≤ 136 → orK p k = absN (zeros 25) p k ∧ (∀ j, k / 8 < j → nth (orK p k) j = 0) ∧ nth (orK p k) (k / 8) < 2 ^ (8 * (k % 8))
  | 0, _ => ⟨by rw [orK_zero]; simp only [absN, iter], fun j _ => by rw [orK_zero]; exact nth_zeros 25 j, by rw [orK_zero]; show nth (List.replicate 25 0) 0 < 1; rw [nth_zeros]; decide⟩
  | k + 1, hk => by
    obtain ⟨h1, h2, h3⟩ := orK_absN p hp k (by omega)
    have hv := orr_xr _ (nth p k) _ h3
    have hl := orK_len p k
    have he : orK p (k + 1) = absN (zeros 25) p (k + 1) := by rw [orK_succ, absN_succ, hv, ← h1]
    refine ⟨he, fun j hj => ?_, ?_⟩
    · rw [orK_succ, nth_set, if_neg (by omega)]
      exact h2 j (by omega)
    · rw [orK_succ, nth_set, hl]
      by_cases hm : k / 8 = (k + 1) / 8
      · rw [if_pos ⟨hm, by omega⟩, hv, show 8 * ((k + 1) % 8) = 8 * (k % 8) + 8 by omega]
        exact xr_small _ _ _ (Nat.lt_of_lt_of_le h3 (Nat.pow_le_pow_right (by decide) (by omega))) (shlw_lt _ _ (hp k))
      · rw [if_neg (fun x => hm x.1), h2 _ (by omega)]
        exact Nat.pow_pos (by decide)
/-- THE HASH OF AT MOST 135 BYTES IS ONE PERMUTATION. -/
theorem hash_block (bs : List Nat) (h : bs.length < 136) (hb : ∀ i, i < bs.length → nth bs i < 256) : hashN bs = outN (permN (orK (padY bs) 136)) := by
  have ho : ∀ i, nth (padY bs) i < 256 := fun i => by
    rw [padY_padN bs h]
    by_cases hi : i < (padN bs).length
    · exact padN_oct bs h hb i hi
    · unfold nth
      rw [List.getD_eq_getElem?_getD, List.getElem?_eq_none (by omega)]; decide
  rw [(orK_absN (padY bs) ho 136 (Nat.le_refl _)).1, padY_padN bs h]
  unfold hashN sumN
  rw [absA_done _ _ h]
  unfold blockN
  rw [padN_len bs h]
end Go.Proofs.YtkinhfaehfldjaaDoor
