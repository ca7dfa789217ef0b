/- '==' on arrays of whole numbers. -/
import Derived.Test.YtkinhfaehfldjaaDoorA9
import Derived.ChangeKeysEq
namespace Go.Proofs.YtkinhfaehfldjaaDoor
open Go.RowKit

def kcells (k : IntKind) (L : List Nat) : Array Value := (L.map fun n : Nat => Value.int k (n : Int)).toArray
theorem kcells_get (k : IntKind) (L : List Nat) (i : Nat) (h : i < L.length) : (kcells k L)[i]? = some (.int k ((nth L i : Nat) : Int)) := by
  simp [kcells, nth, List.getElem?_eq_getElem h]
theorem run_eqItems_kcells {P : Program} (w : World) (d : Nat) (e : TypeId) (k : IntKind) (hu : P.underlying e = some (.int k)) (A B : List Nat) : ∀ is : List Nat, (∀ i ∈ is, i < A.length ∧ i < B.length) →
    (Op.eqItems (d + 1) e 1 (kcells k A) (kcells k B) is).run P w = .ok (decide (∀ i ∈ is, nth A i = nth B i)) w
  | [], _ => by simp [Op.eqItems]
  | j :: is, h => by
    have hj := h j (by simp)
    have pa : (part e (kcells k A) (j * 1)).run P w = .ok (.int k ((nth A j : Nat) : Int)) w := by
      simp [part, isAgg, run_underlying hu, kcells_get k A j hj.1]
    have pb : (part e (kcells k B) (j * 1)).run P w = .ok (.int k ((nth B j : Nat) : Int)) w := by
      simp [part, isAgg, run_underlying hu, kcells_get k B j hj.2]
    have he : (Op.equalIn (d + 1) e (.int k ((nth A j : Nat) : Int)) (.int k ((nth B j : Nat) : Int))).run P w = .ok (((nth A j : Nat) : Int) == ((nth B j : Nat) : Int)) w := run_equalIn_int w d e k k _ _ hu
    have ih := run_eqItems_kcells w d e k hu A B is (fun i hi => h i (by simp [hi]))
    simp only [Op.eqItems, Sem.run_bind, pa, pb, he, Result.andThen_ok]
    by_cases hab : nth A j = nth B j
    · simp [hab, ih]
    · have : (((nth A j : Nat) : Int) == ((nth B j : Nat) : Int)) = false := by simp; omega
      simp [this, hab]
theorem eq_of_nth {A B : List Nat} (hl : A.length = B.length) (h : ∀ i ∈ List.range A.length, nth A i = nth B i) : A = B := by
  refine List.ext_getElem hl fun i h1 h2 => ?_
  have := h i (by simpa using h1)
  simpa [nth, h1, h2] using this
theorem run_eql_kcells {P : Program} (w : World) (t e : TypeId) (k : IntKind) (n : Nat) (ie : TypeInfo) (hu : P.underlying t = some (.array n e)) (hue : P.underlying e = some (.int k)) (hi : P.info? e = some ie) (hc : P.cellsOf e = 1)
    (A B : List Nat) (hA : A.length = n) (hB : B.length = n) : (binOp .eql t (.agg (kcells k A)) (.agg (kcells k B))).run P w = .ok (.bool (decide (A = B))) w := by
  rw [run_eql_struct, run_equalIn_array w 9999 (kcells k A) (kcells k B) hu hi, hc, run_eqItems_kcells w 9998 e k hue A B (List.range n) (fun i hi => by simp at hi; omega)]
  have h2 : decide (∀ i ∈ List.range n, nth A i = nth B i) = decide (A = B) := by
    rw [decide_eq_decide]
    exact ⟨fun h => eq_of_nth (by omega) (by rw [hA]; exact h), fun h => by subst h; intro i _; rfl⟩
  rw [h2]; rfl
theorem eql27 (w : World) (A B : List Nat) (hA : A.length = 32) (hB : B.length = 32) : (binOp .eql 27 (.agg (octets A)) (.agg (octets B))).run Tryd.prog w = .ok (.bool (decide (A = B))) w :=
  run_eql_kcells w 27 5 .u8 32 _ Tryd.underlying27 Tryd.underlying5 rfl (by kernel_rfl) A B hA hB
theorem eql23 (w : World) (A B : List Nat) (hA : A.length = 25) (hB : B.length = 25) : (binOp .eql 23 (.agg (lanes A)) (.agg (lanes B))).run Tryd.prog w = .ok (.bool (decide (A = B))) w :=
  run_eql_kcells w 23 22 .u64 25 _ Tryd.underlying23 Tryd.underlying22 rfl (by kernel_rfl) A B hA hB

theorem eqIn27 (w : World) (A B : List Nat) (hA : A.length = 32) (hB : B.length = 32) : (Op.equalIn 10000 27 (.agg (octets A)) (.agg (octets B))).run Tryd.prog w = .ok (decide (A = B)) w := by
  have hu : Tryd.prog.underlying 27 = some (.array 32 5) := Tryd.underlying27
  have h := run_equalIn_array (P := Tryd.prog) w 9999 (kcells .u8 A) (kcells .u8 B) hu (i := _) rfl
  rw [show Tryd.prog.cellsOf 5 = 1 by kernel_rfl, run_eqItems_kcells w 9998 5 .u8 Tryd.underlying5 A B (List.range 32) (fun i hi => by simp at hi; omega)] at h
  have h2 : decide (∀ i ∈ List.range 32, nth A i = nth B i) = decide (A = B) := by
    rw [decide_eq_decide]
    exact ⟨fun h => eq_of_nth (by omega) (by rw [hA]; exact h), fun h => by subst h; intro i _; rfl⟩
  rw [h2] at h
  exact h
theorem eqIn23 (w : World) (A B : List Nat) (hA : A.length = 25) (hB : B.length = 25) : (Op.equalIn 10000 23 (.agg (lanes A)) (.agg (lanes B))).run Tryd.prog w = .ok (decide (A = B)) w := by
  have hu : Tryd.prog.underlying 23 = some (.array 25 22) := Tryd.underlying23
  have h := run_equalIn_array (P := Tryd.prog) w 9999 (kcells .u64 A) (kcells .u64 B) hu (i := _) rfl
  rw [show Tryd.prog.cellsOf 22 = 1 by kernel_rfl, run_eqItems_kcells w 9998 22 .u64 Tryd.underlying22 A B (List.range 25) (fun i hi => by simp at hi; omega)] at h
  have h2 : decide (∀ i ∈ List.range 25, nth A i = nth B i) = decide (A = B) := by
    rw [decide_eq_decide]
    exact ⟨fun h => eq_of_nth (by omega) (by rw [hA]; exact h), fun h => by subst h; intro i _; rfl⟩
  rw [h2] at h
  exact h
theorem hash_nil : hashN [] = [0xc5, 0xd2, 0x46, 0x01, 0x86, 0xf7, 0x23, 0x3c, 0x92, 0x7e, 0x7d, 0xb2, 0xdc, 0xc7, 0x03, 0xc0, 0xe5, 0x00, 0xb6, 0x53, 0xca, 0x82, 0x27, 0x3b, 0x7b, 0xfa, 0xd8, 0x04, 0x5d, 0x85, 0xa4, 0x70] := by kernel_rfl
theorem hash_abc : nth (hashN [97, 98, 99]) 0 = 0x4e ∧ nth (hashN [97, 98, 99]) 31 = 0x45 := ⟨by kernel_rfl, by kernel_rfl⟩
theorem hashN_len (bs : List Nat) : (hashN bs).length = 32 := outK_len _ _
end Go.Proofs.YtkinhfaehfldjaaDoor
