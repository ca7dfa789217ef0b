/- What the reference's Permute computes. -/
import Derived.Test.YtkinhfaehfldjaaDoorR1
namespace Go.Proofs.YtkinhfaehfldjaaDoor
open Go.RowKit

def colV (A : List Nat) (x : Nat) : Nat := xr (xr (xr (xr (nth A x) (nth A (x + 5))) (nth A (x + 10))) (nth A (x + 15))) (nth A (x + 20))
def colS (A : List Nat) (x : Nat) (C : List Nat) : List Nat := C.set x (colV A x)
def colR (A : List Nat) (k : Nat) : List Nat := iter (colS A) (zeros 5) k
def thD (C : List Nat) (x : Nat) : Nat := xr (nth C ((x + 4) % 5)) (rotR (nth C ((x + 1) % 5)) 1)
def thS (d x y : Nat) (A : List Nat) : List Nat := A.set (x + 5 * y) (xr (nth A (x + 5 * y)) d)
def thX (d x : Nat) (A : List Nat) (k : Nat) : List Nat := iter (thS d x) A k
def thT (C : List Nat) (x : Nat) (A : List Nat) : List Nat := thX (thD C x) x A 5
def thR (C A : List Nat) (k : Nat) : List Nat := iter (thT C) A k
def rpV (A : List Nat) (x y : Nat) : Nat := rotR (nth A (x + 5 * y)) (nth turnsL (x + 5 * y))
def rpS (A : List Nat) (x y : Nat) (B : List Nat) : List Nat := B.set (y + 5 * ((2 * x + 3 * y) % 5)) (rpV A x y)
def rpX (A : List Nat) (x : Nat) (B : List Nat) (k : Nat) : List Nat := iter (rpS A x) B k
def rpT (A : List Nat) (x : Nat) (B : List Nat) : List Nat := rpX A x B 5
def rpR (A : List Nat) (k : Nat) : List Nat := iter (rpT A) (zeros 25) k
def chV (B : List Nat) (x y : Nat) : Nat := xr (nth B (x + 5 * y)) (an (nt (nth B ((x + 1) % 5 + 5 * y))) (nth B ((x + 2) % 5 + 5 * y)))
def chS (B : List Nat) (x y : Nat) (A : List Nat) : List Nat := A.set (x + 5 * y) (chV B x y)
def chX (B : List Nat) (x : Nat) (A : List Nat) (k : Nat) : List Nat := iter (chS B x) A k
def chT (B : List Nat) (x : Nat) (A : List Nat) : List Nat := chX B x A 5
def chR (B A : List Nat) (k : Nat) : List Nat := iter (chT B) A k
def roundR (i : Nat) (A : List Nat) : List Nat := iotaN (nth consts i) (chR (rpR (thR (colR A 5) A 5) 5) (thR (colR A 5) A 5) 5)
def permRK (A : List Nat) (k : Nat) : List Nat := iter roundR A k
theorem colR_len (A : List Nat) (k : Nat) : (colR A k).length = 5 := iter_len (fun _ _ => by simp [colS]) _ k
theorem thX_len (d x : Nat) (A : List Nat) (k : Nat) : (thX d x A k).length = A.length := iter_len (fun _ _ => by simp [thS]) _ k
theorem thR_len (C A : List Nat) (k : Nat) : (thR C A k).length = A.length := iter_len (fun _ _ => thX_len _ _ _ _) _ k
theorem rpX_len (A : List Nat) (x : Nat) (B : List Nat) (k : Nat) : (rpX A x B k).length = B.length := iter_len (fun _ _ => by simp [rpS]) _ k
theorem rpR_len (A : List Nat) (k : Nat) : (rpR A k).length = 25 := (iter_len (fun _ _ => rpX_len _ _ _ _) _ k).trans (by simp [zeros])
theorem chX_len (B : List Nat) (x : Nat) (A : List Nat) (k : Nat) : (chX B x A k).length = A.length := iter_len (fun _ _ => by simp [chS]) _ k
theorem chR_len (B A : List Nat) (k : Nat) : (chR B A k).length = A.length := iter_len (fun _ _ => chX_len _ _ _ _) _ k
theorem roundR_len (i : Nat) (A : List Nat) : (roundR i A).length = A.length := by simp [roundR, iotaN, chR_len, thR_len]
theorem permRK_len (A : List Nat) (k : Nat) : (permRK A k).length = A.length := iter_len roundR_len _ k

/-- memory in the reference's rounds: the lanes, the result, the two tables -/
structure RMem (w : World) (n mo mc : Nat) (A : List Nat) (wr : World) : Prop where
  a : HB wr n (lanes A) 23
  r : HB wr (n + 1) (lanes (zeros 25)) 23
  o : HB wr mo (ints turnsL) 48
  c : HB wr mc (lanes consts) 45
  b : Below n w wr
  h1 : n + 1 < mo
  h2 : mo < mc
theorem RMem.alloc {w wr : World} {n mo mc : Nat} {A : List Nat} (h : RMem w n mo mc A wr) (o : Obj) : RMem w n mo mc A (wr.alloc o) :=
  ⟨h.a.alloc o, h.r.alloc o, h.o.alloc o, h.c.alloc o, h.b.alloc (by have := h.a.lt; omega) o, h.h1, h.h2⟩
theorem RMem.drew {w wr : World} {n mo mc : Nat} {A : List Nat} (h : RMem w n mo mc A wr) : RMem w n mo mc A wr.drew := ⟨h.a, h.r, h.o, h.c, h.b.drew, h.h1, h.h2⟩
theorem RMem.other {w wr : World} {n mo mc : Nat} {A : List Nat} (h : RMem w n mo mc A wr) (p : Addr) (v : Value) (hp : mc < p.block) : RMem w n mo mc A (wr.setCell p v) :=
  have h1 := h.h1
  have h2 := h.h2
  ⟨h.a.other p v (by omega), h.r.other p v (by omega), h.o.other p v (by omega), h.c.other p v (by omega), h.b.setCell (by omega) v, h.h1, h.h2⟩
theorem RMem.lane {w wr : World} {n mo mc : Nat} {A : List Nat} (h : RMem w n mo mc A wr) (i x : Nat) : RMem w n mo mc (A.set i x) (wr.setCell ⟨n, i, none⟩ (.int .u64 (x : Int))) :=
  have h1 := h.h1
  have h2 := h.h2
  ⟨h.a.setLane i x, h.r.other _ _ (by simp), h.o.other _ _ (by simp; omega), h.c.other _ _ (by simp; omega), h.b.setCell (by simp) _, h.h1, h.h2⟩
theorem RMem.lt {w wr : World} {n mo mc : Nat} {A : List Nat} (h : RMem w n mo mc A wr) : mc < wr.heap.size := h.c.lt
end Go.Proofs.YtkinhfaehfldjaaDoor
