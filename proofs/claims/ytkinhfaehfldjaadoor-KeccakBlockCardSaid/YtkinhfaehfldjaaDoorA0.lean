/- Small words for walks: a block of cells in memory, and rows of 64-bit lanes. -/
import Derived.Test.YtkinhfaehfldjaaDoorRows
import Derived.WalkKit
import Derived.WalkSpells
import Derived.Lib.Hide
import Derived.Deep.Draws
namespace Go.Proofs.YtkinhfaehfldjaaDoor
open Go.RowKit

/-- A fact that no tactic looks into. -/
structure Hd (p : Prop) : Prop where
  out : p

/-- Block g holds the cells cs of type t, none of them frozen. -/
def HB (W : World) (g : Nat) (cs : Array Value) (t : TypeId) : Prop := W.heap[g]? = some (.cells cs t (0, 0))
theorem HB.lt {W : World} {g : Nat} {cs : Array Value} {t : TypeId} (h : HB W g cs t) : g < W.heap.size := by
  unfold HB at h
  rcases Nat.lt_or_ge g W.heap.size with h1 | h1
  · exact h1
  · simp [Array.getElem?_eq_none h1] at h
theorem HB.heap {W : World} {g : Nat} {cs : Array Value} {t : TypeId} (h : HB W g cs t) : W.heap[g]? = some (.cells cs t (0, 0)) := h
theorem HB.below {B : Nat} {W W' : World} {g : Nat} {cs : Array Value} {t : TypeId} (h : HB W g cs t) (hb : Below B W W') (hg : g < B) : HB W' g cs t := (hb.block g hg).trans h
theorem HB.new (W : World) (cs : Array Value) (t : TypeId) : HB (W.alloc (.cells cs t)) W.heap.size cs t := heap_alloc_new W _
theorem HB.alloc {W : World} {g : Nat} {cs : Array Value} {t : TypeId} (h : HB W g cs t) (o : Obj) : HB (W.alloc o) g cs t := (Below.heap_alloc W o g h.lt).trans h
theorem HB.drew {W : World} {g : Nat} {cs : Array Value} {t : TypeId} (h : HB W g cs t) : HB W.drew g cs t := h
theorem HB.drewN {W : World} {g : Nat} {cs : Array Value} {t : TypeId} (h : HB W g cs t) (n : Nat) : HB (W.drewN n) g cs t := h
theorem HB.set {W : World} {g : Nat} {cs : Array Value} {t : TypeId} (h : HB W g cs t) (i : Nat) (v : Value) : HB (W.setCell ⟨g, i, none⟩ v) g (cs.setIfInBounds i v) t := heap_setCell_same W g i cs t v h
theorem HB.other {W : World} {g : Nat} {cs : Array Value} {t : TypeId} (h : HB W g cs t) (p : Addr) (v : Value) (hne : g ≠ p.block) : HB (W.setCell p v) g cs t := (heap_setCell_other W p g v hne).trans h
theorem HB.cell {W : World} {g : Nat} {cs : Array Value} {t : TypeId} (h : HB W g cs t) (i : Nat) : W.cell? ⟨g, i, none⟩ = cs[i]? := cell_of_row W g i cs t (0, 0) h
theorem HB.free {W : World} {g : Nat} {cs : Array Value} {t : TypeId} (h : HB W g cs t) (i : Nat) : W.frozen? ⟨g, i, none⟩ = false := frozen_of_row W g i cs t h

theorem HB.row {W : World} {g : Nat} {cs : Array Value} {t : TypeId} (h : HB W g cs t) (cs' : Array Value) : HB (W.setRow g cs') g cs' t := setRow_heap W g cs cs' t _ h
theorem HB.rowOther {W : World} {g : Nat} {cs : Array Value} {t : TypeId} (h : HB W g cs t) (k : Nat) (cs' : Array Value) (hne : g ≠ k) : HB (W.setRow k cs') g cs t := (setRow_other W k g cs' hne).trans h
theorem below_setRow {B : Nat} {a w : World} (h : Below B a w) {g : Nat} (hg : B ≤ g) (cs : Array Value) : Below B a (w.setRow g cs) :=
  ⟨h.os, h.tape, h.output, by simpa using h.size, fun k hk => (setRow_other w g k cs (by omega)).trans (h.block k hk)⟩
def nth (L : List Nat) (k : Nat) : Nat := L.getD k 0
def lanes (L : List Nat) : Array Value := (L.map fun n : Nat => Value.int .u64 (n : Int)).toArray
def laneL (L : List Nat) : List Value := L.map fun n : Nat => Value.int .u64 (n : Int)
theorem laneL_length (L : List Nat) : (laneL L).length = L.length := by simp [laneL]
theorem lanes_size (L : List Nat) : (lanes L).size = L.length := by simp [lanes]
theorem lanes_get (L : List Nat) (i : Nat) (h : i < L.length) : (lanes L)[i]? = some (.int .u64 ((nth L i : Nat) : Int)) := by
  simp [lanes, nth, List.getElem?_eq_getElem h]
theorem lanes_set (L : List Nat) (i n : Nat) : (lanes L).setIfInBounds i (.int .u64 (n : Int)) = lanes (L.set i n) := by
  simp [lanes, List.map_set]
theorem HB.lane {W : World} {g : Nat} {L : List Nat} {t : TypeId} (h : HB W g (lanes L) t) (i : Nat) (hi : i < L.length) : W.cell? ⟨g, i, none⟩ = some (.int .u64 ((nth L i : Nat) : Int)) := by
  rw [h.cell, lanes_get L i hi]
theorem HB.setLane {W : World} {g : Nat} {L : List Nat} {t : TypeId} (h : HB W g (lanes L) t) (i n : Nat) : HB (W.setCell ⟨g, i, none⟩ (.int .u64 (n : Int))) g (lanes (L.set i n)) t := by
  rw [← lanes_set]; exact h.set i _

/-- 64-bit words as natural numbers: total, each cut to 64 bits. -/
def xr (x y : Nat) : Nat := (x ^^^ y) % 2 ^ 64
def an (x y : Nat) : Nat := (x &&& y) % 2 ^ 64
def orr (x y : Nat) : Nat := (x ||| y) % 2 ^ 64
def nt (x : Nat) : Nat := xr 18446744073709551615 x
def shlw (x n : Nat) : Nat := (x <<< n) % 2 ^ 64
def rotl (x n : Nat) : Nat := orr (shlw x n) (x >>> (64 - n))

theorem ofInt64 (x : Nat) : (BitVec.ofInt 64 (x : Int)).toNat = x % 2 ^ 64 := by
  rw [BitVec.ofInt_natCast, BitVec.toNat_ofNat]
theorem u64_wrap_mod (n : Nat) : IntKind.u64.wrap ((n % 2 ^ 64 : Nat) : Int) = ((n % 2 ^ 64 : Nat) : Int) := by
  rw [IntKind.wrap_u64]; omega
theorem bits_xr (x y : Nat) : bits .xor .u64 (x : Int) (y : Int) = ((xr x y : Nat) : Int) := by
  show IntKind.u64.wrap ((BitVec.ofInt 64 (x : Int) ^^^ BitVec.ofInt 64 (y : Int)).toNat : Int) = _
  rw [BitVec.toNat_xor, ofInt64, ofInt64, ← Nat.xor_mod_two_pow]; exact u64_wrap_mod _
theorem bits_an (x y : Nat) : bits .and .u64 (x : Int) (y : Int) = ((an x y : Nat) : Int) := by
  show IntKind.u64.wrap ((BitVec.ofInt 64 (x : Int) &&& BitVec.ofInt 64 (y : Int)).toNat : Int) = _
  rw [BitVec.toNat_and, ofInt64, ofInt64, ← Nat.and_mod_two_pow]; exact u64_wrap_mod _
theorem bits_orr (x y : Nat) : bits .or .u64 (x : Int) (y : Int) = ((orr x y : Nat) : Int) := by
  show IntKind.u64.wrap ((BitVec.ofInt 64 (x : Int) ||| BitVec.ofInt 64 (y : Int)).toNat : Int) = _
  rw [BitVec.toNat_or, ofInt64, ofInt64, ← Nat.or_mod_two_pow]; exact u64_wrap_mod _
theorem bits_nt (x : Nat) : bits .xor .u64 IntKind.u64.max (x : Int) = ((nt x : Nat) : Int) := by
  have h := bits_xr 18446744073709551615 x
  have e : IntKind.u64.max = ((18446744073709551615 : Nat) : Int) := by rfl
  rw [e]; exact h
theorem wrap_shl (x n : Nat) : IntKind.u64.wrap ((x : Int) * 2 ^ n) = ((shlw x n : Nat) : Int) := by
  rw [IntKind.wrap_u64]; unfold shlw; rw [Nat.shiftLeft_eq]; simp
theorem wrap_shl_min (x n : Nat) (hn : n ≤ 64) : IntKind.u64.wrap ((x : Int) * 2 ^ min n 64) = ((shlw x n : Nat) : Int) := by
  rw [Nat.min_eq_left hn]; exact wrap_shl x n
theorem div_shr (x n : Nat) : (x : Int) / 2 ^ n = ((x >>> n : Nat) : Int) := by
  rw [Nat.shiftRight_eq_div_pow]; simp
theorem run_shl {P : Program} (x n : Nat) (hn : n ≤ 64) (k : IntKind) (w : World) : (Op.shift .shl .u64 (x : Int) k (n : Int)).run P w = .ok (.int .u64 ((shlw x n : Nat) : Int)) w := by
  have h1 : ¬ (n : Int) < 0 := by omega
  have h2 : min (n : Int).toNat (IntKind.bits .u64) = n := by show min (n : Int).toNat 64 = n; omega
  have h3 : IntKind.u64.wrap ((x : Int) * 2 ^ n) = ((shlw x n : Nat) : Int) := by
    rw [IntKind.wrap_u64]; unfold shlw; rw [Nat.shiftLeft_eq]; simp
  simp only [Op.shift, if_neg h1, h2, h3]; rfl
theorem run_shr {P : Program} (x n : Nat) (hn : n ≤ 64) (k : IntKind) (w : World) : (Op.shift .shr .u64 (x : Int) k (n : Int)).run P w = .ok (.int .u64 ((x >>> n : Nat) : Int)) w := by
  have h1 : ¬ (n : Int) < 0 := by omega
  have h2 : min (n : Int).toNat (IntKind.bits .u64) = n := by show min (n : Int).toNat 64 = n; omega
  have h3 : (x : Int).fdiv (2 ^ n) = ((x >>> n : Nat) : Int) := by
    rw [Nat.shiftRight_eq_div_pow, Int.fdiv_eq_ediv_of_nonneg _ (Int.le_of_lt (Int.pow_pos (by decide)))]; simp
  simp only [Op.shift, if_neg h1, h2, h3]; rfl

theorem run_index_lanes {P : Program} (ty e len : Nat) (ie : TypeInfo) (L : List Nat) (k : Nat) (hu : P.underlying ty = some (.array len e)) (hue : P.underlying e = some (.int .u64)) (he : P.info? e = some ie) (hs : ie.size = 1) (hl : L.length = len) (hk : k < len) (w : World) :
    (Instr.index ty (.agg (lanes L)) (.int .i64 (k : Int))).run P w = .ok (.int .u64 ((nth L k : Nat) : Int)) w := by
  have hg := lanes_get L k (by omega)
  simp [Instr.index, asIntOf, run_underlying hu, hk, sizeOf, typeInfo, he, hs, part, hg, isAgg, run_underlying hue]

def iter {α : Type} (f : Nat → α → α) (s : α) : Nat → α
  | 0 => s
  | k + 1 => f k (iter f s k)

theorem ret_int {k : IntKind} {a b : Int} (h : a = b) : Ending.returned (.int k a) = .returned (.int k b) := by rw [h]
theorem lanes_one (L : List Nat) : (lanes L).all (·.oneCell') = true := by
  simp [lanes, Value.oneCell']

/-- bits.RotateLeft64 by 0 to 63 places. -/
theorem rot_any (x k : Nat) (hk : k < 64) (w : World) :
    Calls Tryd.prog 20 #[.int .u64 (x : Int), .int .i64 (k : Int)] w fun e w' => e = .returned (.int .u64 ((rotl x k : Nat) : Int)) ∧ w' = w := by
  have h0 : bits .and .u64 (k : Int) 63 = (k : Int) := by
    have h := bits_an k 63
    have e : an k 63 = k := by
      unfold an
      rw [show (63 : Nat) = 2 ^ 6 - 1 from rfl, Nat.and_two_pow_sub_one_eq_mod]
      omega
    rw [e] at h; exact_mod_cast h
  go_enter Tryd.func20, Tryd.ntmps20
  go_wp2
  go_ret
  refine ⟨ret_int ?_, rfl⟩
  have h3 : IntKind.u64.wrap ((x : Int) * 2 ^ k) = ((shlw x k : Nat) : Int) := by
    rw [IntKind.wrap_u64]; unfold shlw; rw [Nat.shiftLeft_eq]; simp
  have h4 : (x : Int) / 2 ^ (64 - k) = ((x >>> (64 - k) : Nat) : Int) := by
    rw [Nat.shiftRight_eq_div_pow]; simp
  show bits .or .u64 _ _ = _
  rw [h3, h4, bits_orr]; rfl
end Go.Proofs.YtkinhfaehfldjaaDoor
