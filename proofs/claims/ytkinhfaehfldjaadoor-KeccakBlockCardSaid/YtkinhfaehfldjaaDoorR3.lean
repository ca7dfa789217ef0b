/- Plain law: on states of 25 words of 64 bits the reference's rounds are the program's. -/
import Derived.Test.YtkinhfaehfldjaaDoorR2
import Derived.KernelRfl
namespace Go.Proofs.YtkinhfaehfldjaaDoor

theorem xr_lt (x y : Nat) : xr x y < 2 ^ 64 := Nat.mod_lt _ (by decide)
theorem orr_lt (x y : Nat) : orr x y < 2 ^ 64 := Nat.mod_lt _ (by decide)
theorem rotl_lt (x n : Nat) : rotl x n < 2 ^ 64 := orr_lt _ _
theorem xr_zero (x : Nat) (h : x < 2 ^ 64) : xr 0 x = x := by unfold xr; rw [Nat.zero_xor]; exact Nat.mod_eq_of_lt h
theorem rotl_zero (x : Nat) (h : x < 2 ^ 64) : rotl x 0 = x := by
  have h1 : x >>> 64 = 0 := by rw [Nat.shiftRight_eq_div_pow]; exact Nat.div_eq_of_lt h
  unfold rotl shlw orr
  rw [Nat.sub_zero, h1, Nat.or_zero, Nat.shiftLeft_zero, Nat.mod_mod, Nat.mod_eq_of_lt h]
theorem list25 (A : List Nat) (h : A.length = 25) : ∃ a0 a1 a2 a3 a4 a5 a6 a7 a8 a9 a10 a11 a12 a13 a14 a15 a16 a17 a18 a19 a20 a21 a22 a23 a24, A = [a0, a1, a2, a3, a4, a5, a6, a7, a8, a9, a10, a11, a12, a13, a14, a15, a16, a17, a18, a19, a20, a21, a22, a23, a24] :=
  match A, h with
  | [a0, a1, a2, a3, a4, a5, a6, a7, a8, a9, a10, a11, a12, a13, a14, a15, a16, a17, a18, a19, a20, a21, a22, a23, a24], _ => ⟨a0, a1, a2, a3, a4, a5, a6, a7, a8, a9, a10, a11, a12, a13, a14, a15, a16, a17, a18, a19, a20, a21, a22, a23, a24, rfl⟩
theorem list5 (A : List Nat) (h : A.length = 5) : ∃ c0 c1 c2 c3 c4, A = [c0, c1, c2, c3, c4] :=
  match A, h with
  | [c0, c1, c2, c3, c4], _ => ⟨c0, c1, c2, c3, c4, rfl⟩
/-- 25 words of 64 bits -/
structure State (A : List Nat) : Prop where
  len : A.length = 25
  lt : ∀ i, nth A i < 2 ^ 64
theorem cols_eq (A : List Nat) (h : State A) : colsN A 25 = colR A 5 := by
  obtain ⟨a0, a1, a2, a3, a4, a5, a6, a7, a8, a9, a10, a11, a12, a13, a14, a15, a16, a17, a18, a19, a20, a21, a22, a23, a24, rfl⟩ := list25 A h.len
  have e : colsN [a0, a1, a2, a3, a4, a5, a6, a7, a8, a9, a10, a11, a12, a13, a14, a15, a16, a17, a18, a19, a20, a21, a22, a23, a24] 25 = [xr (xr (xr (xr (xr 0 a0) a5) a10) a15) a20, xr (xr (xr (xr (xr 0 a1) a6) a11) a16) a21, xr (xr (xr (xr (xr 0 a2) a7) a12) a17) a22, xr (xr (xr (xr (xr 0 a3) a8) a13) a18) a23, xr (xr (xr (xr (xr 0 a4) a9) a14) a19) a24] := by kernel_rfl
  have e2 : [xr (xr (xr (xr a0 a5) a10) a15) a20, xr (xr (xr (xr a1 a6) a11) a16) a21, xr (xr (xr (xr a2 a7) a12) a17) a22, xr (xr (xr (xr a3 a8) a13) a18) a23, xr (xr (xr (xr a4 a9) a14) a19) a24] = colR [a0, a1, a2, a3, a4, a5, a6, a7, a8, a9, a10, a11, a12, a13, a14, a15, a16, a17, a18, a19, a20, a21, a22, a23, a24] 5 := by kernel_rfl
  rw [e, xr_zero a0 (h.lt 0), xr_zero a1 (h.lt 1), xr_zero a2 (h.lt 2), xr_zero a3 (h.lt 3), xr_zero a4 (h.lt 4)]
  exact e2
theorem turn_eq (A C : List Nat) (hA : A.length = 25) (hC : C.length = 5) : turnN A C 25 = rpR (thR C A 5) 5 := by
  obtain ⟨a0, a1, a2, a3, a4, a5, a6, a7, a8, a9, a10, a11, a12, a13, a14, a15, a16, a17, a18, a19, a20, a21, a22, a23, a24, rfl⟩ := list25 A hA
  obtain ⟨c0, c1, c2, c3, c4, rfl⟩ := list5 C hC
  have e : turnN [a0, a1, a2, a3, a4, a5, a6, a7, a8, a9, a10, a11, a12, a13, a14, a15, a16, a17, a18, a19, a20, a21, a22, a23, a24] [c0, c1, c2, c3, c4] 25 = rotl (xr a0 (xr c4 (rotl c1 1))) 0 :: (rpR (thR [c0, c1, c2, c3, c4] [a0, a1, a2, a3, a4, a5, a6, a7, a8, a9, a10, a11, a12, a13, a14, a15, a16, a17, a18, a19, a20, a21, a22, a23, a24] 5) 5).tail := by kernel_rfl
  have e2 : xr a0 (xr c4 (rotl c1 1)) :: (rpR (thR [c0, c1, c2, c3, c4] [a0, a1, a2, a3, a4, a5, a6, a7, a8, a9, a10, a11, a12, a13, a14, a15, a16, a17, a18, a19, a20, a21, a22, a23, a24] 5) 5).tail = rpR (thR [c0, c1, c2, c3, c4] [a0, a1, a2, a3, a4, a5, a6, a7, a8, a9, a10, a11, a12, a13, a14, a15, a16, a17, a18, a19, a20, a21, a22, a23, a24] 5) 5 := by kernel_rfl
  rw [e, rotl_zero _ (xr_lt _ _)]
  exact e2
theorem chi_eq (B A A' : List Nat) (hB : B.length = 25) (hA : A.length = 25) (hA' : A'.length = 25) : chiN B A 5 = chR B A' 5 := by
  obtain ⟨b0, b1, b2, b3, b4, b5, b6, b7, b8, b9, b10, b11, b12, b13, b14, b15, b16, b17, b18, b19, b20, b21, b22, b23, b24, rfl⟩ := list25 B hB
  obtain ⟨a0, a1, a2, a3, a4, a5, a6, a7, a8, a9, a10, a11, a12, a13, a14, a15, a16, a17, a18, a19, a20, a21, a22, a23, a24, rfl⟩ := list25 A hA
  obtain ⟨d0, d1, d2, d3, d4, d5, d6, d7, d8, d9, d10, d11, d12, d13, d14, d15, d16, d17, d18, d19, d20, d21, d22, d23, d24, rfl⟩ := list25 A' hA'
  kernel_rfl
theorem round_eq (i : Nat) (A : List Nat) (h : State A) : roundR i A = roundN i A := by
  unfold roundR roundN
  rw [cols_eq A h, turn_eq A _ h.len (colR_len A 5), chi_eq _ A (thR (colR A 5) A 5) (rpR_len _ _) h.len ((thR_len _ _ _).trans h.len)]
theorem set_lt {A : List Nat} (h : ∀ i, nth A i < 2 ^ 64) (k v : Nat) (hv : v < 2 ^ 64) : ∀ i, nth (A.set k v) i < 2 ^ 64 := by
  intro i
  simp only [nth, List.getD_eq_getElem?_getD, List.getElem?_set]
  split
  · split
    · simpa using hv
    · simp
  · have := h i
    simpa [nth] using this
theorem iter_lt {f : Nat → List Nat → List Nat} (hf : ∀ k A, (∀ i, nth A i < 2 ^ 64) → ∀ i, nth (f k A) i < 2 ^ 64) {A : List Nat} (h : ∀ i, nth A i < 2 ^ 64) : ∀ k i, nth (iter f A k) i < 2 ^ 64
  | 0 => h
  | k + 1 => hf k _ (iter_lt hf h k)
theorem round_state (i : Nat) (A : List Nat) (h : State A) : State (roundN i A) := by
  refine ⟨(roundN_len i A).trans h.len, ?_⟩
  unfold roundN iotaN
  refine set_lt ?_ _ _ (xr_lt _ _)
  refine iter_lt (fun q A hA => ?_) h.lt 5
  exact iter_lt (fun x A hA => set_lt hA _ _ (xr_lt _ _)) hA 5
theorem permK_succ (A : List Nat) (k : Nat) : permK A (k + 1) = roundN k (permK A k) := by simp only [permK, iter]
theorem permRK_succ (A : List Nat) (k : Nat) : permRK A (k + 1) = roundR k (permRK A k) := by simp only [permRK, iter]
theorem permK_state (A : List Nat) (h : State A) : ∀ k, State (permK A k)
  | 0 => h
  | k + 1 => by rw [permK_succ]; exact round_state k _ (permK_state A h k)
theorem perm_eq (A : List Nat) (h : State A) : ∀ k, permRK A k = permK A k
  | 0 => by simp only [permRK, permK, iter]
  | k + 1 => by
    rw [permK_succ, permRK_succ, perm_eq A h k]
    exact round_eq k _ (permK_state A h k)
end Go.Proofs.YtkinhfaehfldjaaDoor
