/- Plain law: the permutation is one-to-one on states of 25 words of 64 bits. -/
import Derived.Test.YtkinhfaehfldjaaDoorR3
namespace Go.Proofs.YtkinhfaehfldjaaDoor

theorem xr_bit (x y j : Nat) (hj : j < 64) : (xr x y).testBit j = (x.testBit j ^^ y.testBit j) := by
  unfold xr; rw [Nat.testBit_mod_two_pow, Nat.testBit_xor]; simp [hj]
theorem an_bit (x y j : Nat) (hj : j < 64) : (an x y).testBit j = (x.testBit j && y.testBit j) := by
  unfold an; rw [Nat.testBit_mod_two_pow, Nat.testBit_and]; simp [hj]
theorem ones_bit (j : Nat) (hj : j < 64) : (18446744073709551615 : Nat).testBit j = true := by
  have h : ∀ j, j < 64 → (18446744073709551615 : Nat).testBit j = true := by decide
  exact h j hj
theorem nt_bit (x j : Nat) (hj : j < 64) : (nt x).testBit j = !x.testBit j := by
  unfold nt; rw [xr_bit _ _ _ hj, ones_bit j hj]; cases x.testBit j <;> rfl
theorem high_bit (x j : Nat) (h : x < 2 ^ 64) (hj : 64 ≤ j) : x.testBit j = false :=
  Nat.testBit_lt_two_pow (Nat.lt_of_lt_of_le h (Nat.pow_le_pow_right (by decide) hj))
theorem eq_of_bits {x y : Nat} (hx : x < 2 ^ 64) (hy : y < 2 ^ 64) (h : ∀ j, j < 64 → x.testBit j = y.testBit j) : x = y := by
  refine Nat.eq_of_testBit_eq fun j => ?_
  by_cases hj : j < 64
  · exact h j hj
  · rw [high_bit x j hx (by omega), high_bit y j hy (by omega)]
theorem rotl_bit (x n j : Nat) (hx : x < 2 ^ 64) (hn : n < 64) (hj : j < 64) : (rotl x n).testBit j = x.testBit ((j + (64 - n)) % 64) := by
  unfold rotl orr shlw
  rw [Nat.testBit_mod_two_pow, Nat.testBit_or, Nat.testBit_mod_two_pow, Nat.testBit_shiftLeft, Nat.testBit_shiftRight]
  simp only [hj, decide_true, Bool.true_and]
  by_cases h : n ≤ j
  · have e : (j + (64 - n)) % 64 = j - n := by omega
    have h2 : x.testBit (64 - n + j) = false := high_bit x _ hx (by omega)
    simp [h, e, h2]
  · have e : (j + (64 - n)) % 64 = 64 - n + j := by omega
    simp [e]; omega
theorem rotl_inj (x y n : Nat) (hx : x < 2 ^ 64) (hy : y < 2 ^ 64) (hn : n < 64) (h : rotl x n = rotl y n) : x = y := by
  refine eq_of_bits hx hy fun j hj => ?_
  have hb := congrArg (fun z => z.testBit ((j + n) % 64)) h
  rw [rotl_bit x n _ hx hn (Nat.mod_lt _ (by decide)), rotl_bit y n _ hy hn (Nat.mod_lt _ (by decide))] at hb
  have e : ((j + n) % 64 + (64 - n)) % 64 = j := by omega
  rwa [e] at hb
theorem rotR_inj (x y n : Nat) (hx : x < 2 ^ 64) (hy : y < 2 ^ 64) (hn : n < 64) (h : rotR x n = rotR y n) : x = y := by
  unfold rotR at h
  split at h
  · exact h
  · exact rotl_inj x y n hx hy hn h
theorem xr_inj (x y c : Nat) (hx : x < 2 ^ 64) (hy : y < 2 ^ 64) (h : xr x c = xr y c) : x = y := by
  refine eq_of_bits hx hy fun j hj => ?_
  have hb := congrArg (fun z => z.testBit j) h
  rw [xr_bit _ _ _ hj, xr_bit _ _ _ hj] at hb
  revert hb
  cases x.testBit j <;> cases y.testBit j <;> cases c.testBit j <;> simp

/-! ### the rows -/
theorem row_bits : ∀ b0 b1 b2 b3 b4 c0 c1 c2 c3 c4 : Bool, (b0 ^^ (!b1 && b2)) = (c0 ^^ (!c1 && c2)) → (b1 ^^ (!b2 && b3)) = (c1 ^^ (!c2 && c3)) → (b2 ^^ (!b3 && b4)) = (c2 ^^ (!c3 && c4)) →
    (b3 ^^ (!b4 && b0)) = (c3 ^^ (!c4 && c0)) → (b4 ^^ (!b0 && b1)) = (c4 ^^ (!c0 && c1)) → b0 = c0 ∧ b1 = c1 ∧ b2 = c2 ∧ b3 = c3 ∧ b4 = c4 := by decide
theorem row_inj (b0 b1 b2 b3 b4 c0 c1 c2 c3 c4 : Nat) (hb0 : b0 < 2 ^ 64) (hb1 : b1 < 2 ^ 64) (hb2 : b2 < 2 ^ 64) (hb3 : b3 < 2 ^ 64) (hb4 : b4 < 2 ^ 64) (hc0 : c0 < 2 ^ 64) (hc1 : c1 < 2 ^ 64) (hc2 : c2 < 2 ^ 64) (hc3 : c3 < 2 ^ 64) (hc4 : c4 < 2 ^ 64)
    (h0 : xr b0 (an (nt b1) b2) = xr c0 (an (nt c1) c2)) (h1 : xr b1 (an (nt b2) b3) = xr c1 (an (nt c2) c3)) (h2 : xr b2 (an (nt b3) b4) = xr c2 (an (nt c3) c4))
    (h3 : xr b3 (an (nt b4) b0) = xr c3 (an (nt c4) c0)) (h4 : xr b4 (an (nt b0) b1) = xr c4 (an (nt c0) c1)) : b0 = c0 ∧ b1 = c1 ∧ b2 = c2 ∧ b3 = c3 ∧ b4 = c4 := by
  have key : ∀ j, j < 64 → b0.testBit j = c0.testBit j ∧ b1.testBit j = c1.testBit j ∧ b2.testBit j = c2.testBit j ∧ b3.testBit j = c3.testBit j ∧ b4.testBit j = c4.testBit j := by
    intro j hj
    have g : ∀ x y z x' y' z' : Nat, xr x (an (nt y) z) = xr x' (an (nt y') z') → (x.testBit j ^^ (!y.testBit j && z.testBit j)) = (x'.testBit j ^^ (!y'.testBit j && z'.testBit j)) := by
      intro x y z x' y' z' h
      have hb := congrArg (fun z => z.testBit j) h
      rwa [xr_bit _ _ _ hj, xr_bit _ _ _ hj, an_bit _ _ _ hj, an_bit _ _ _ hj, nt_bit _ _ hj, nt_bit _ _ hj] at hb
    exact row_bits _ _ _ _ _ _ _ _ _ _ (g _ _ _ _ _ _ h0) (g _ _ _ _ _ _ h1) (g _ _ _ _ _ _ h2) (g _ _ _ _ _ _ h3) (g _ _ _ _ _ _ h4)
  exact ⟨eq_of_bits hb0 hc0 fun j hj => (key j hj).1, eq_of_bits hb1 hc1 fun j hj => (key j hj).2.1, eq_of_bits hb2 hc2 fun j hj => (key j hj).2.2.1, eq_of_bits hb3 hc3 fun j hj => (key j hj).2.2.2.1, eq_of_bits hb4 hc4 fun j hj => (key j hj).2.2.2.2⟩
theorem list_inj25 {a0 a1 a2 a3 a4 a5 a6 a7 a8 a9 a10 a11 a12 a13 a14 a15 a16 a17 a18 a19 a20 a21 a22 a23 a24 b0 b1 b2 b3 b4 b5 b6 b7 b8 b9 b10 b11 b12 b13 b14 b15 b16 b17 b18 b19 b20 b21 b22 b23 b24 : Nat} (h : [a0, a1, a2, a3, a4, a5, a6, a7, a8, a9, a10, a11, a12, a13, a14, a15, a16, a17, a18, a19, a20, a21, a22, a23, a24] = [b0, b1, b2, b3, b4, b5, b6, b7, b8, b9, b10, b11, b12, b13, b14, b15, b16, b17, b18, b19, b20, b21, b22, b23, b24]) : a0 = b0 ∧ a1 = b1 ∧ a2 = b2 ∧ a3 = b3 ∧ a4 = b4 ∧ a5 = b5 ∧ a6 = b6 ∧ a7 = b7 ∧ a8 = b8 ∧ a9 = b9 ∧ a10 = b10 ∧ a11 = b11 ∧ a12 = b12 ∧ a13 = b13 ∧ a14 = b14 ∧ a15 = b15 ∧ a16 = b16 ∧ a17 = b17 ∧ a18 = b18 ∧ a19 = b19 ∧ a20 = b20 ∧ a21 = b21 ∧ a22 = b22 ∧ a23 = b23 ∧ a24 = b24 := by
  simpa only [List.cons.injEq, and_true] using h
theorem chi_list (b0 b1 b2 b3 b4 b5 b6 b7 b8 b9 b10 b11 b12 b13 b14 b15 b16 b17 b18 b19 b20 b21 b22 b23 b24 : Nat) (T : List Nat) (hT : T.length = 25) : chR [b0, b1, b2, b3, b4, b5, b6, b7, b8, b9, b10, b11, b12, b13, b14, b15, b16, b17, b18, b19, b20, b21, b22, b23, b24] T 5 = [xr b0 (an (nt b1) b2), xr b1 (an (nt b2) b3), xr b2 (an (nt b3) b4), xr b3 (an (nt b4) b0), xr b4 (an (nt b0) b1), xr b5 (an (nt b6) b7), xr b6 (an (nt b7) b8), xr b7 (an (nt b8) b9), xr b8 (an (nt b9) b5), xr b9 (an (nt b5) b6), xr b10 (an (nt b11) b12), xr b11 (an (nt b12) b13), xr b12 (an (nt b13) b14), xr b13 (an (nt b14) b10), xr b14 (an (nt b10) b11), xr b15 (an (nt b16) b17), xr b16 (an (nt b17) b18), xr b17 (an (nt b18) b19), xr b18 (an (nt b19) b15), xr b19 (an (nt b15) b16), xr b20 (an (nt b21) b22), xr b21 (an (nt b22) b23), xr b22 (an (nt b23) b24), xr b23 (an (nt b24) b20), xr b24 (an (nt b20) b21)] := by
  obtain ⟨d0, d1, d2, d3, d4, d5, d6, d7, d8, d9, d10, d11, d12, d13, d14, d15, d16, d17, d18, d19, d20, d21, d22, d23, d24, rfl⟩ := list25 T hT
  kernel_rfl
theorem chi_inj (A B T T' : List Nat) (hA : State A) (hB : State B) (hT : T.length = 25) (hT' : T'.length = 25) (h : chR A T 5 = chR B T' 5) : A = B := by
  obtain ⟨a0, a1, a2, a3, a4, a5, a6, a7, a8, a9, a10, a11, a12, a13, a14, a15, a16, a17, a18, a19, a20, a21, a22, a23, a24, rfl⟩ := list25 A hA.len
  obtain ⟨b0, b1, b2, b3, b4, b5, b6, b7, b8, b9, b10, b11, b12, b13, b14, b15, b16, b17, b18, b19, b20, b21, b22, b23, b24, rfl⟩ := list25 B hB.len
  rw [chi_list _ _ _ _ _ _ _ _ _ _ _ _ _ _ _ _ _ _ _ _ _ _ _ _ _ T hT, chi_list _ _ _ _ _ _ _ _ _ _ _ _ _ _ _ _ _ _ _ _ _ _ _ _ _ T' hT'] at h
  obtain ⟨h0, h1, h2, h3, h4, h5, h6, h7, h8, h9, h10, h11, h12, h13, h14, h15, h16, h17, h18, h19, h20, h21, h22, h23, h24⟩ := list_inj25 h
  obtain ⟨rfl, rfl, rfl, rfl, rfl⟩ := row_inj a0 a1 a2 a3 a4 b0 b1 b2 b3 b4 (hA.lt 0) (hA.lt 1) (hA.lt 2) (hA.lt 3) (hA.lt 4) (hB.lt 0) (hB.lt 1) (hB.lt 2) (hB.lt 3) (hB.lt 4) h0 h1 h2 h3 h4
  obtain ⟨rfl, rfl, rfl, rfl, rfl⟩ := row_inj a5 a6 a7 a8 a9 b5 b6 b7 b8 b9 (hA.lt 5) (hA.lt 6) (hA.lt 7) (hA.lt 8) (hA.lt 9) (hB.lt 5) (hB.lt 6) (hB.lt 7) (hB.lt 8) (hB.lt 9) h5 h6 h7 h8 h9
  obtain ⟨rfl, rfl, rfl, rfl, rfl⟩ := row_inj a10 a11 a12 a13 a14 b10 b11 b12 b13 b14 (hA.lt 10) (hA.lt 11) (hA.lt 12) (hA.lt 13) (hA.lt 14) (hB.lt 10) (hB.lt 11) (hB.lt 12) (hB.lt 13) (hB.lt 14) h10 h11 h12 h13 h14
  obtain ⟨rfl, rfl, rfl, rfl, rfl⟩ := row_inj a15 a16 a17 a18 a19 b15 b16 b17 b18 b19 (hA.lt 15) (hA.lt 16) (hA.lt 17) (hA.lt 18) (hA.lt 19) (hB.lt 15) (hB.lt 16) (hB.lt 17) (hB.lt 18) (hB.lt 19) h15 h16 h17 h18 h19
  obtain ⟨rfl, rfl, rfl, rfl, rfl⟩ := row_inj a20 a21 a22 a23 a24 b20 b21 b22 b23 b24 (hA.lt 20) (hA.lt 21) (hA.lt 22) (hA.lt 23) (hA.lt 24) (hB.lt 20) (hB.lt 21) (hB.lt 22) (hB.lt 23) (hB.lt 24) h20 h21 h22 h23 h24
  rfl
theorem rp_list (a0 a1 a2 a3 a4 a5 a6 a7 a8 a9 a10 a11 a12 a13 a14 a15 a16 a17 a18 a19 a20 a21 a22 a23 a24 : Nat) : rpR [a0, a1, a2, a3, a4, a5, a6, a7, a8, a9, a10, a11, a12, a13, a14, a15, a16, a17, a18, a19, a20, a21, a22, a23, a24] 5 = [rotR a0 0, rotR a6 44, rotR a12 43, rotR a18 21, rotR a24 14, rotR a3 28, rotR a9 20, rotR a10 3, rotR a16 45, rotR a22 61, rotR a1 1, rotR a7 6, rotR a13 25, rotR a19 8, rotR a20 18, rotR a4 27, rotR a5 36, rotR a11 10, rotR a17 15, rotR a23 56, rotR a2 62, rotR a8 55, rotR a14 39, rotR a15 41, rotR a21 2] := by kernel_rfl
theorem rp_inj (A B : List Nat) (hA : State A) (hB : State B) (h : rpR A 5 = rpR B 5) : A = B := by
  obtain ⟨a0, a1, a2, a3, a4, a5, a6, a7, a8, a9, a10, a11, a12, a13, a14, a15, a16, a17, a18, a19, a20, a21, a22, a23, a24, rfl⟩ := list25 A hA.len
  obtain ⟨b0, b1, b2, b3, b4, b5, b6, b7, b8, b9, b10, b11, b12, b13, b14, b15, b16, b17, b18, b19, b20, b21, b22, b23, b24, rfl⟩ := list25 B hB.len
  rw [rp_list, rp_list] at h
  obtain ⟨h0, h1, h2, h3, h4, h5, h6, h7, h8, h9, h10, h11, h12, h13, h14, h15, h16, h17, h18, h19, h20, h21, h22, h23, h24⟩ := list_inj25 h
  obtain rfl := rotR_inj a0 b0 0 (hA.lt 0) (hB.lt 0) (by decide) h0
  obtain rfl := rotR_inj a6 b6 44 (hA.lt 6) (hB.lt 6) (by decide) h1
  obtain rfl := rotR_inj a12 b12 43 (hA.lt 12) (hB.lt 12) (by decide) h2
  obtain rfl := rotR_inj a18 b18 21 (hA.lt 18) (hB.lt 18) (by decide) h3
  obtain rfl := rotR_inj a24 b24 14 (hA.lt 24) (hB.lt 24) (by decide) h4
  obtain rfl := rotR_inj a3 b3 28 (hA.lt 3) (hB.lt 3) (by decide) h5
  obtain rfl := rotR_inj a9 b9 20 (hA.lt 9) (hB.lt 9) (by decide) h6
  obtain rfl := rotR_inj a10 b10 3 (hA.lt 10) (hB.lt 10) (by decide) h7
  obtain rfl := rotR_inj a16 b16 45 (hA.lt 16) (hB.lt 16) (by decide) h8
  obtain rfl := rotR_inj a22 b22 61 (hA.lt 22) (hB.lt 22) (by decide) h9
  obtain rfl := rotR_inj a1 b1 1 (hA.lt 1) (hB.lt 1) (by decide) h10
  obtain rfl := rotR_inj a7 b7 6 (hA.lt 7) (hB.lt 7) (by decide) h11
  obtain rfl := rotR_inj a13 b13 25 (hA.lt 13) (hB.lt 13) (by decide) h12
  obtain rfl := rotR_inj a19 b19 8 (hA.lt 19) (hB.lt 19) (by decide) h13
  obtain rfl := rotR_inj a20 b20 18 (hA.lt 20) (hB.lt 20) (by decide) h14
  obtain rfl := rotR_inj a4 b4 27 (hA.lt 4) (hB.lt 4) (by decide) h15
  obtain rfl := rotR_inj a5 b5 36 (hA.lt 5) (hB.lt 5) (by decide) h16
  obtain rfl := rotR_inj a11 b11 10 (hA.lt 11) (hB.lt 11) (by decide) h17
  obtain rfl := rotR_inj a17 b17 15 (hA.lt 17) (hB.lt 17) (by decide) h18
  obtain rfl := rotR_inj a23 b23 56 (hA.lt 23) (hB.lt 23) (by decide) h19
  obtain rfl := rotR_inj a2 b2 62 (hA.lt 2) (hB.lt 2) (by decide) h20
  obtain rfl := rotR_inj a8 b8 55 (hA.lt 8) (hB.lt 8) (by decide) h21
  obtain rfl := rotR_inj a14 b14 39 (hA.lt 14) (hB.lt 14) (by decide) h22
  obtain rfl := rotR_inj a15 b15 41 (hA.lt 15) (hB.lt 15) (by decide) h23
  obtain rfl := rotR_inj a21 b21 2 (hA.lt 21) (hB.lt 21) (by decide) h24
  rfl

/-! ### the columns -/
def Mg (p q s : Nat) (c : Nat → Nat → Bool) (x j : Nat) : Bool := (c x j ^^ c (x + p) j) ^^ c (x + q) (j + s)
structure Per (c : Nat → Nat → Bool) : Prop where
  x : ∀ x j, c (x + 5) j = c x j
  j : ∀ x j, c x (j + 64) = c x j
theorem Mg_sq (p q s : Nat) (c : Nat → Nat → Bool) : Mg p q s (Mg p q s c) = Mg (p + p) (q + q) (s + s) c := by
  funext x j
  simp only [Mg]
  rw [show x + p + p = x + (p + p) by omega, show x + q + q = x + (q + q) by omega, show j + s + s = j + (s + s) by omega, show x + q + p = x + p + q by omega]
  cases c x j <;> cases c (x + p) j <;> cases c (x + q) (j + s) <;> cases c (x + (p + p)) j <;> cases c (x + p + q) (j + s) <;> cases c (x + (q + q)) (j + (s + s)) <;> rfl
theorem Mg_dbl {p q s : Nat} {c d : Nat → Nat → Bool} (h : Mg p q s c = Mg p q s d) : Mg (p + p) (q + q) (s + s) c = Mg (p + p) (q + q) (s + s) d := by
  rw [← Mg_sq, ← Mg_sq, h]
theorem Per.xk {c : Nat → Nat → Bool} (h : Per c) (k : Nat) : ∀ x j, c (x + 5 * k) j = c x j := by
  induction k with
  | zero => intro x j; rfl
  | succ k ih => intro x j; rw [show x + 5 * (k + 1) = (x + 5 * k) + 5 by omega, h.x, ih]
theorem Per.jk {c : Nat → Nat → Bool} (h : Per c) (k : Nat) : ∀ x j, c x (j + 64 * k) = c x j := by
  induction k with
  | zero => intro x j; rfl
  | succ k ih => intro x j; rw [show j + 64 * (k + 1) = (j + 64 * k) + 64 by omega, h.j, ih]
theorem Mg_64 {c : Nat → Nat → Bool} (h : Per c) : Mg 256 64 4032 c = Mg 1 4 0 c := by
  funext x j
  simp only [Mg, Nat.add_zero]
  rw [show x + 256 = (x + 1) + 5 * 51 by omega, show x + 64 = (x + 4) + 5 * 12 by omega, show j + 4032 = j + 64 * 63 by omega, h.xk, h.xk, h.jk]
theorem Mg_cube {c : Nat → Nat → Bool} (h : Per c) : Mg 1 4 0 (Mg 1 4 0 (Mg 1 4 0 c)) = c := by
  funext x j
  simp only [Mg, Nat.add_zero]
  have e : ∀ k, c (x + k + 5) j = c (x + k) j := fun k => h.x _ _
  have e0 : c (x + 5) j = c x j := h.x _ _
  simp only [show x + 1 + 1 = x + 2 by omega, show x + 1 + 4 = x + 5 by omega, show x + 4 + 1 = x + 5 by omega, show x + 4 + 4 = x + 3 + 5 by omega, show x + 2 + 1 = x + 3 by omega, show x + 2 + 4 = x + 1 + 5 by omega,
    show x + 5 + 1 = x + 1 + 5 by omega, show x + 5 + 4 = x + 4 + 5 by omega, show x + 3 + 5 + 1 = x + 4 + 5 by omega, show x + 3 + 5 + 4 = x + 2 + 5 + 5 by omega, e, e0]
  cases c x j <;> cases c (x + 1) j <;> cases c (x + 2) j <;> cases c (x + 3) j <;> cases c (x + 4) j <;> rfl
theorem Mg_inj {c d : Nat → Nat → Bool} (hc : Per c) (hd : Per d) (h : Mg 4 1 63 c = Mg 4 1 63 d) : c = d := by
  have h1 := Mg_dbl h
  have h2 := Mg_dbl h1
  have h3 := Mg_dbl h2
  have h4 := Mg_dbl h3
  have h5 := Mg_dbl h4
  have h6 := Mg_dbl h5
  have h7 : Mg 256 64 4032 c = Mg 256 64 4032 d := h6
  rw [Mg_64 hc, Mg_64 hd] at h7
  rw [← Mg_cube hc, ← Mg_cube hd, h7]

def bitOf (C : List Nat) (x j : Nat) : Bool := (nth C (x % 5)).testBit (j % 64)
theorem bitOf_per (C : List Nat) : Per (bitOf C) := ⟨fun x j => by unfold bitOf; rw [Nat.add_mod_right], fun x j => by unfold bitOf; rw [Nat.add_mod_right]⟩
theorem th_list (c0 c1 c2 c3 c4 a0 a1 a2 a3 a4 a5 a6 a7 a8 a9 a10 a11 a12 a13 a14 a15 a16 a17 a18 a19 a20 a21 a22 a23 a24 : Nat) : thR [c0, c1, c2, c3, c4] [a0, a1, a2, a3, a4, a5, a6, a7, a8, a9, a10, a11, a12, a13, a14, a15, a16, a17, a18, a19, a20, a21, a22, a23, a24] 5 = [xr a0 (xr c4 (rotR c1 1)), xr a1 (xr c0 (rotR c2 1)), xr a2 (xr c1 (rotR c3 1)), xr a3 (xr c2 (rotR c4 1)), xr a4 (xr c3 (rotR c0 1)), xr a5 (xr c4 (rotR c1 1)), xr a6 (xr c0 (rotR c2 1)), xr a7 (xr c1 (rotR c3 1)), xr a8 (xr c2 (rotR c4 1)), xr a9 (xr c3 (rotR c0 1)), xr a10 (xr c4 (rotR c1 1)), xr a11 (xr c0 (rotR c2 1)), xr a12 (xr c1 (rotR c3 1)), xr a13 (xr c2 (rotR c4 1)), xr a14 (xr c3 (rotR c0 1)), xr a15 (xr c4 (rotR c1 1)), xr a16 (xr c0 (rotR c2 1)), xr a17 (xr c1 (rotR c3 1)), xr a18 (xr c2 (rotR c4 1)), xr a19 (xr c3 (rotR c0 1)), xr a20 (xr c4 (rotR c1 1)), xr a21 (xr c0 (rotR c2 1)), xr a22 (xr c1 (rotR c3 1)), xr a23 (xr c2 (rotR c4 1)), xr a24 (xr c3 (rotR c0 1))] := by kernel_rfl
theorem col_list (a0 a1 a2 a3 a4 a5 a6 a7 a8 a9 a10 a11 a12 a13 a14 a15 a16 a17 a18 a19 a20 a21 a22 a23 a24 : Nat) : colR [a0, a1, a2, a3, a4, a5, a6, a7, a8, a9, a10, a11, a12, a13, a14, a15, a16, a17, a18, a19, a20, a21, a22, a23, a24] 5 = [xr (xr (xr (xr a0 a5) a10) a15) a20, xr (xr (xr (xr a1 a6) a11) a16) a21, xr (xr (xr (xr a2 a7) a12) a17) a22, xr (xr (xr (xr a3 a8) a13) a18) a23, xr (xr (xr (xr a4 a9) a14) a19) a24] := by kernel_rfl
/-- the parity of a column in which every word was turned by d -/
theorem col_turn (a0 a1 a2 a3 a4 d j : Nat) (hj : j < 64) : (xr (xr (xr (xr (xr a0 d) (xr a1 d)) (xr a2 d)) (xr a3 d)) (xr a4 d)).testBit j = ((xr (xr (xr (xr a0 a1) a2) a3) a4).testBit j ^^ d.testBit j) := by
  simp only [xr_bit _ _ _ hj]
  cases a0.testBit j <;> cases a1.testBit j <;> cases a2.testBit j <;> cases a3.testBit j <;> cases a4.testBit j <;> cases d.testBit j <;> rfl
theorem th_col (A C : List Nat) (hA : State A) (hC : C = colR A 5) (x j : Nat) : bitOf (colR (thR C A 5) 5) x j = Mg 4 1 63 (bitOf C) x j := by
  have hlt : ∀ i, nth C i < 2 ^ 64 := by
    rw [hC]; unfold colR
    exact iter_lt (fun k B hB => set_lt hB _ _ (xr_lt _ _)) (fun i => by simp only [nth, zeros, List.getD_eq_getElem?_getD, List.getElem?_replicate]; split <;> simp) 5
  obtain ⟨a0, a1, a2, a3, a4, a5, a6, a7, a8, a9, a10, a11, a12, a13, a14, a15, a16, a17, a18, a19, a20, a21, a22, a23, a24, rfl⟩ := list25 A hA.len
  obtain ⟨c0, c1, c2, c3, c4, rfl⟩ := list5 C (by rw [hC]; exact colR_len _ _)
  rw [col_list] at hC
  simp only [List.cons.injEq, and_true] at hC
  obtain ⟨hc0, hc1, hc2, hc3, hc4⟩ := hC
  rw [th_list, col_list]
  have hj : j % 64 < 64 := Nat.mod_lt _ (by decide)
  have hrot : ∀ c, c < 2 ^ 64 → (rotR c 1).testBit (j % 64) = c.testBit ((j + 63) % 64) := by
    intro c hc
    show (rotl c 1).testBit _ = _
    rw [rotl_bit c 1 _ hc (by decide) hj]
    congr 1; omega
  have key : ∀ (b0 b1 b2 b3 b4 c p q : Nat), c = xr (xr (xr (xr b0 b1) b2) b3) b4 → q < 2 ^ 64 → (xr (xr (xr (xr (xr b0 (xr p (rotR q 1))) (xr b1 (xr p (rotR q 1)))) (xr b2 (xr p (rotR q 1)))) (xr b3 (xr p (rotR q 1)))) (xr b4 (xr p (rotR q 1)))).testBit (j % 64) =
      ((c.testBit (j % 64) ^^ p.testBit (j % 64)) ^^ q.testBit ((j + 63) % 64)) := by
    intro b0 b1 b2 b3 b4 c p q hc hq
    rw [col_turn _ _ _ _ _ _ _ hj, xr_bit p (rotR q 1) _ hj, hrot q hq, ← hc, Bool.xor_assoc]
  have hx : x % 5 = 0 ∨ x % 5 = 1 ∨ x % 5 = 2 ∨ x % 5 = 3 ∨ x % 5 = 4 := by omega
  simp only [Mg, bitOf]
  rcases hx with hx | hx | hx | hx | hx
  · rw [hx, show (x + 4) % 5 = 4 by omega, show (x + 1) % 5 = 1 by omega]
    exact key _ _ _ _ _ c0 c4 c1 hc0 (hlt 1)
  · rw [hx, show (x + 4) % 5 = 0 by omega, show (x + 1) % 5 = 2 by omega]
    exact key _ _ _ _ _ c1 c0 c2 hc1 (hlt 2)
  · rw [hx, show (x + 4) % 5 = 1 by omega, show (x + 1) % 5 = 3 by omega]
    exact key _ _ _ _ _ c2 c1 c3 hc2 (hlt 3)
  · rw [hx, show (x + 4) % 5 = 2 by omega, show (x + 1) % 5 = 4 by omega]
    exact key _ _ _ _ _ c3 c2 c4 hc3 (hlt 4)
  · rw [hx, show (x + 4) % 5 = 3 by omega, show (x + 1) % 5 = 0 by omega]
    exact key _ _ _ _ _ c4 c3 c0 hc4 (hlt 0)
theorem theta_inj (A B : List Nat) (hA : State A) (hB : State B) (h : thR (colR A 5) A 5 = thR (colR B 5) B 5) : A = B := by
  have hbit : bitOf (colR A 5) = bitOf (colR B 5) := by
    refine Mg_inj (bitOf_per _) (bitOf_per _) ?_
    funext x j
    rw [← th_col A _ hA rfl, ← th_col B _ hB rfl, h]
  have hCs : ∀ X : List Nat, ∀ i, nth (colR X 5) i < 2 ^ 64 := fun X => by
    unfold colR
    exact iter_lt (fun k B hB => set_lt hB _ _ (xr_lt _ _)) (fun i => by simp only [nth, zeros, List.getD_eq_getElem?_getD, List.getElem?_replicate]; split <;> simp) 5
  have hC : colR A 5 = colR B 5 := by
    refine eq_of_nth (by rw [colR_len, colR_len]) fun i hi => ?_
    rw [colR_len] at hi
    have hi5 : i < 5 := List.mem_range.1 hi
    refine eq_of_bits (hCs A i) (hCs B i) fun j hj => ?_
    have := congrFun (congrFun hbit i) j
    simpa [bitOf, Nat.mod_eq_of_lt hi5, Nat.mod_eq_of_lt hj] using this
  rw [← hC] at h
  obtain ⟨c0, c1, c2, c3, c4, hc⟩ := list5 (colR A 5) (colR_len A 5)
  rw [hc] at h
  obtain ⟨a0, a1, a2, a3, a4, a5, a6, a7, a8, a9, a10, a11, a12, a13, a14, a15, a16, a17, a18, a19, a20, a21, a22, a23, a24, rfl⟩ := list25 A hA.len
  obtain ⟨b0, b1, b2, b3, b4, b5, b6, b7, b8, b9, b10, b11, b12, b13, b14, b15, b16, b17, b18, b19, b20, b21, b22, b23, b24, rfl⟩ := list25 B hB.len
  rw [th_list, th_list] at h
  obtain ⟨h0, h1, h2, h3, h4, h5, h6, h7, h8, h9, h10, h11, h12, h13, h14, h15, h16, h17, h18, h19, h20, h21, h22, h23, h24⟩ := list_inj25 h
  obtain rfl := xr_inj a0 b0 _ (hA.lt 0) (hB.lt 0) h0
  obtain rfl := xr_inj a1 b1 _ (hA.lt 1) (hB.lt 1) h1
  obtain rfl := xr_inj a2 b2 _ (hA.lt 2) (hB.lt 2) h2
  obtain rfl := xr_inj a3 b3 _ (hA.lt 3) (hB.lt 3) h3
  obtain rfl := xr_inj a4 b4 _ (hA.lt 4) (hB.lt 4) h4
  obtain rfl := xr_inj a5 b5 _ (hA.lt 5) (hB.lt 5) h5
  obtain rfl := xr_inj a6 b6 _ (hA.lt 6) (hB.lt 6) h6
  obtain rfl := xr_inj a7 b7 _ (hA.lt 7) (hB.lt 7) h7
  obtain rfl := xr_inj a8 b8 _ (hA.lt 8) (hB.lt 8) h8
  obtain rfl := xr_inj a9 b9 _ (hA.lt 9) (hB.lt 9) h9
  obtain rfl := xr_inj a10 b10 _ (hA.lt 10) (hB.lt 10) h10
  obtain rfl := xr_inj a11 b11 _ (hA.lt 11) (hB.lt 11) h11
  obtain rfl := xr_inj a12 b12 _ (hA.lt 12) (hB.lt 12) h12
  obtain rfl := xr_inj a13 b13 _ (hA.lt 13) (hB.lt 13) h13
  obtain rfl := xr_inj a14 b14 _ (hA.lt 14) (hB.lt 14) h14
  obtain rfl := xr_inj a15 b15 _ (hA.lt 15) (hB.lt 15) h15
  obtain rfl := xr_inj a16 b16 _ (hA.lt 16) (hB.lt 16) h16
  obtain rfl := xr_inj a17 b17 _ (hA.lt 17) (hB.lt 17) h17
  obtain rfl := xr_inj a18 b18 _ (hA.lt 18) (hB.lt 18) h18
  obtain rfl := xr_inj a19 b19 _ (hA.lt 19) (hB.lt 19) h19
  obtain rfl := xr_inj a20 b20 _ (hA.lt 20) (hB.lt 20) h20
  obtain rfl := xr_inj a21 b21 _ (hA.lt 21) (hB.lt 21) h21
  obtain rfl := xr_inj a22 b22 _ (hA.lt 22) (hB.lt 22) h22
  obtain rfl := xr_inj a23 b23 _ (hA.lt 23) (hB.lt 23) h23
  obtain rfl := xr_inj a24 b24 _ (hA.lt 24) (hB.lt 24) h24
  rfl
theorem iota_inj (A B : List Nat) (c : Nat) (hA : State A) (hB : State B) (h : iotaN c A = iotaN c B) : A = B := by
  unfold iotaN at h
  refine eq_of_nth (by rw [hA.len, hB.len]) fun i hi => ?_
  rw [hA.len] at hi
  have hi' : i < 25 := List.mem_range.1 hi
  have h1 := congrArg (fun l => nth l i) h
  simp only [nth_set] at h1
  by_cases h0 : 0 = i
  · subst h0
    rw [if_pos ⟨rfl, by rw [hA.len]; omega⟩, if_pos ⟨rfl, by rw [hB.len]; omega⟩] at h1
    exact xr_inj _ _ c (hA.lt 0) (hB.lt 0) h1
  · rw [if_neg (fun x => h0 x.1), if_neg (fun x => h0 x.1)] at h1
    exact h1
theorem iter_state {f : Nat → List Nat → List Nat} (hf : ∀ k A, State A → State (f k A)) {A : List Nat} (h : State A) : ∀ k, State (iter f A k)
  | 0 => h
  | k + 1 => hf k _ (iter_state hf h k)
theorem set_state {A : List Nat} (h : State A) (k v : Nat) (hv : v < 2 ^ 64) : State (A.set k v) := ⟨by rw [List.length_set]; exact h.len, set_lt h.lt k v hv⟩
theorem zeros_state : State (zeros 25) := ⟨rfl, fun i => by simp only [nth, zeros, List.getD_eq_getElem?_getD, List.getElem?_replicate]; split <;> simp⟩
theorem thR_state (C A : List Nat) (h : State A) : State (thR C A 5) := iter_state (fun _ _ hA => iter_state (fun _ _ hA => set_state hA _ _ (xr_lt _ _)) hA 5) h 5
theorem rotR_lt (x n : Nat) (h : x < 2 ^ 64) : rotR x n < 2 ^ 64 := by
  unfold rotR; split
  · exact h
  · exact rotl_lt _ _
theorem rpR_state (A : List Nat) (h : State A) : State (rpR A 5) := iter_state (fun _ _ hA => iter_state (fun _ _ hA => set_state hA _ _ (rotR_lt _ _ (h.lt _))) hA 5) zeros_state 5
theorem chR_state (B A : List Nat) (h : State A) : State (chR B A 5) := iter_state (fun _ _ hA => iter_state (fun _ _ hA => set_state hA _ _ (xr_lt _ _)) hA 5) h 5
theorem round_inj (i : Nat) (A B : List Nat) (hA : State A) (hB : State B) (h : roundN i A = roundN i B) : A = B := by
  rw [← round_eq i A hA, ← round_eq i B hB] at h
  have tA := thR_state (colR A 5) A hA
  have tB := thR_state (colR B 5) B hB
  have h1 := iota_inj _ _ _ (chR_state _ _ tA) (chR_state _ _ tB) h
  have h2 := chi_inj _ _ _ _ (rpR_state _ tA) (rpR_state _ tB) tA.len tB.len h1
  exact theta_inj A B hA hB (rp_inj _ _ tA tB h2)
theorem permK_inj (A B : List Nat) (hA : State A) (hB : State B) (k : Nat) (h : permK A k = permK B k) : A = B := by
  induction k with
  | zero => simpa only [permK, iter] using h
  | succ k ih =>
    rw [permK_succ, permK_succ] at h
    exact ih (round_inj k _ _ (permK_state A hA k) (permK_state B hB k) h)
end Go.Proofs.YtkinhfaehfldjaaDoor
