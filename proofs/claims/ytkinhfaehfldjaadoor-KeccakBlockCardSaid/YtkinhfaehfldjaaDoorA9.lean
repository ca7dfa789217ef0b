/- The walk of keccak.Sum over parts: the hash of all their bytes. -/
import Derived.Test.YtkinhfaehfldjaaDoorA8
namespace Go.Proofs.YtkinhfaehfldjaaDoor
open Go.RowKit

theorem absA_append (b : List Nat) : ∀ (k : Nat) (L a : List Nat), a.length ≤ k → absA (absA L a).1 ((absA L a).2 ++ b) = absA L (a ++ b)
  | 0, L, a, h => by
    have ha : a = [] := List.eq_nil_of_length_eq_zero (by omega)
    subst ha; rfl
  | k + 1, L, a, h => by
    by_cases hl : 136 ≤ a.length
    · rw [absA_step L a hl, absA_append b k _ _ (by simp; omega), absA_step L (a ++ b) (by simp; omega), List.take_append_of_le_length hl, List.drop_append_of_le_length hl]
    · rw [absA_done L a (by omega)]
theorem absA_rest (k : Nat) : ∀ (L a : List Nat), a.length ≤ k → (absA L a).2.length < 136 ∧ (absA L a).2.length ≤ a.length := by
  induction k with
  | zero => intro L a h; rw [absA_done L a (by omega)]; exact ⟨by show a.length < 136; omega, Nat.le_refl _⟩
  | succ k ih =>
    intro L a h
    by_cases hl : 136 ≤ a.length
    · rw [absA_step L a hl]
      have := ih (blockN L (a.take 136)) (a.drop 136) (by simp; omega)
      exact ⟨this.1, Nat.le_trans this.2 (by simp)⟩
    · rw [absA_done L a (by omega)]; exact ⟨by show a.length < 136; omega, Nat.le_refl _⟩

/-- all bytes of the parts -/
def cat (ss : List ByteArray) : List Nat := (ss.map bytesOf).flatten
/-- the hash of bytes -/
def hashN (bs : List Nat) : List Nat := sumN (absA (zeros 25) bs).1 (absA (zeros 25) bs).2
theorem cat_snoc (ss : List ByteArray) (s : ByteArray) : cat (ss ++ [s]) = cat ss ++ bytesOf s := by simp [cat]

/-- a hash under way that was given these bytes -/
structure Going (W : World) (g r : Nat) (bs : List Nat) : Prop where
  at' : ∃ a c, HashAt W g r (absA (zeros 25) bs).1 (absA (zeros 25) bs).2 bs.length a c
theorem Going.frm {S : Nat → Prop} {W W' : World} {g r : Nat} {bs : List Nat} (h : Going W g r bs) (hf : Frm S W W') (hg : ¬ S g) (hr : ¬ S r) : Going W' g r bs := by
  obtain ⟨a, c, h⟩ := h.at'
  exact ⟨a, c, h.frm hf hg hr⟩
theorem Going.below {B : Nat} {W W' : World} {g r : Nat} {bs : List Nat} (h : Going W g r bs) (hb : Below B W W') (hB : W.heap.size ≤ B) : Going W' g r bs :=
  h.frm (S := fun _ => False) (Frm.of_below (hb.mono hB)) id id
theorem Going.lt {W : World} {g r : Nat} {bs : List Nat} (h : Going W g r bs) : g < W.heap.size ∧ r < W.heap.size := by
  obtain ⟨a, c, h⟩ := h.at'
  exact ⟨h.hb.lt, h.rlt⟩
def WrotePost (W : World) (g r : Nat) (bs : List Nat) (s : ByteArray) (e : Ending) (W' : World) : Prop :=
  e = .returned (.int .i64 (s.size : Int)) ∧ ∃ r', Going W' g r' (bs ++ bytesOf s) ∧ (r' = r ∨ W.heap.size ≤ r') ∧ Frm (fun k => k = g ∨ k = r) W W'
theorem Going.write {W : World} {g r : Nat} {bs : List Nat} (h : Going W g r bs) (hv : Vars W) (hn : 3 ≤ W.heap.size) (s : ByteArray) (hsz : bs.length + s.size ≤ 140737488355328) :
    Calls Tryd.prog 16 #[.pointer (some ⟨g, 0, none⟩), .string s] W (WrotePost W g r bs s) := by
  obtain ⟨a, c, hA⟩ := h.at'
  have hle := (absA_rest _ (zeros 25) bs (Nat.le_refl _)).2
  refine (write_any W g r _ _ bs.length a c s hA hle hsz hv hn).mono ?_
  rintro e W' ⟨he, r', a', c', hA', _, hr', hf⟩
  rw [absA_append _ bs.length _ _ (Nat.le_refl _)] at hA'
  refine ⟨he, r', ⟨a', c', ?_⟩, hr', hf⟩
  rw [List.length_append, bytesOf_length]; exact hA'
theorem Going.sum {W : World} {g r : Nat} {bs : List Nat} (h : Going W g r bs) (hv : Vars W) (hn : 3 ≤ W.heap.size) :
    Calls Tryd.prog 17 #[.pointer (some ⟨g, 0, none⟩)] W fun e W' => e = .returned (.agg (octets (hashN bs))) ∧ Below W.heap.size W W' := by
  obtain ⟨a, c, hA⟩ := h.at'
  exact sumh_any W g r _ _ bs.length a c hA (absA_rest _ (zeros 25) bs (Nat.le_refl _)).1 hv hn
theorem Going.len {W : World} {g r : Nat} {bs : List Nat} (h : Going W g r bs) :
    Calls Tryd.prog 18 #[.pointer (some ⟨g, 0, none⟩)] W fun e W' => e = .returned (.int .i64 (bs.length : Int)) ∧ W' = W := by
  obtain ⟨a, c, hA⟩ := h.at'
  exact len_any W g r _ _ bs.length a c hA
theorem Going.reset {W : World} {g r : Nat} {bs : List Nat} (h : Going W g r bs) :
    Calls Tryd.prog 19 #[.pointer (some ⟨g, 0, none⟩)] W fun e W' => e = .returned (.tuple #[]) ∧ Going W' g g [] ∧ Frm (fun k => k = g) W W' := by
  obtain ⟨a, c, hA⟩ := h.at'
  exact (reset_any W g r _ _ bs.length a c hA).mono fun e W' ⟨he, h1, h2⟩ => ⟨he, ⟨none, 0, h1⟩, h2⟩
theorem new_going (w : World) (hn : 3 ≤ w.heap.size) :
    Calls Tryd.prog 15 #[] w fun e w' => e = .returned (.pointer (some ⟨w.heap.size, 0, none⟩)) ∧ Going w' w.heap.size w.heap.size [] ∧ Below w.heap.size w w' :=
  (new_any w hn).mono fun _ _ ⟨h1, h2, h3⟩ => ⟨h1, ⟨none, 0, h2⟩, h3⟩
theorem cat_take (ss : List ByteArray) (k : Nat) (h : k < ss.length) : cat (ss.take (k + 1)) = cat (ss.take k) ++ bytesOf (ss.getD k ByteArray.empty) := by
  rw [List.take_succ_eq_append_getElem h, cat_snoc]
  simp [List.getElem?_eq_getElem h]
theorem cat_le (ss : List ByteArray) (k : Nat) : (cat (ss.take k)).length ≤ (cat ss).length := by
  have h : cat ss = cat (ss.take k) ++ cat (ss.drop k) := by
    unfold cat; rw [← List.flatten_append, ← List.map_append, List.take_append_drop]
  rw [h]; simp
/-- strings in a row -/
def strCs (ss : List ByteArray) : List Value := ss.map Value.string
/-- The slice a, of ss.length, holds these strings, in memory that was there at w. -/
def Strs (w : World) (a : Option Addr) (ss : List ByteArray) : Prop :=
  ∀ i, i < ss.length → ∃ g o, a = some ⟨g, o, none⟩ ∧ g < w.heap.size ∧ w.cell? ⟨g, o + i, none⟩ = some (.string (ss.getD i ByteArray.empty))

theorem info27z : (Tryd.prog.info? 27).map (·.size) = some 32 := by kernel_rfl
set_option maxRecDepth 100000 in
set_option maxHeartbeats 1000000 in
theorem sum_any (w : World) (a : Option Addr) (ss : List ByteArray) (c : Nat) (hs : Strs w a ss) (hl : (cat ss).length ≤ 140737488355328) (hm : ss.length ≤ maxLen) (hv : Vars w) (hn : 3 ≤ w.heap.size) :
    Calls Tryd.prog 13 #[.slice a ss.length c] w fun e w' => e = .returned (.agg (octets (hashN (cat ss)))) ∧ Below w.heap.size w w' := by
  unfold maxLen at hm
  have hres := HB.new w (octets (zeros 32)) 27
  have hb0 := (Below.refl w.heap.size w).alloc (Nat.le_refl _) (.cells (octets (zeros 32)) 27)
  have hnew := new_going (w.alloc (.cells (octets (zeros 32)) 27)) (by simp; omega)
  have HN := Hd.mk hnew
  have HS := Hd.mk hs
  have HL := Hd.mk hl
  clear hnew hs hl
  obtain ⟨n, hnl⟩ : ∃ n, n = ss.length := ⟨_, rfl⟩
  rw [← hnl] at hm ⊢
  have HNL := Hd.mk hnl; clear hnl
  go_enter Tryd.func13, Tryd.ntmps13
  go_wp2_with (go_at_call 15; refine HN.out.mono ?_; rintro e w1 ⟨rfl, hg1, hb1⟩)
  have hg2 : Going w1 (w.heap.size + 1) (w.heap.size + 1) [] := by simpa using hg1
  have hr2 := hres.below hb1 (by simp)
  have hb2 : Below w.heap.size w w1 := hb0.trans (hb1.mono (by simp))
  clear hg1 hres hb1 hb0
  go_loopw [9] (fun i W => ∃ k : Nat, k ≤ n ∧ i = .int .i64 k ∧ ∃ r, Going W (w.heap.size + 1) r (cat (ss.take k)) ∧ w.heap.size + 1 ≤ r ∧ HB W w.heap.size (octets (zeros 32)) 27 ∧ Below w.heap.size w W) (fun i _ => n - (intOf i).toNat)
  case atStart => exact ⟨0, by omega, rfl, w.heap.size + 1, hg2, Nat.le_refl _, hr2, hb2⟩
  case round =>
    clear hg2 hr2 hb2
    obtain ⟨k, hk, rfl, r, hg, hr, hres, hb⟩ := hrel
    have hvr := hv.below hb hn
    have hnr : 3 ≤ wr.heap.size := Nat.le_trans hn hb.size
    by_cases hlt : k < n
    · obtain ⟨gp, o, rfl, hgp, hcell⟩ := HS.out k (by rw [← HNL.out]; exact hlt)
      have hc := (hb.cell (p := ⟨gp, o + k, none⟩) hgp).trans hcell
      have hw := hg.write hvr hnr (ss.getD k ByteArray.empty) (by
        have h1 := cat_le ss (k + 1)
        rw [cat_take ss k (by rw [← HNL.out]; exact hlt), List.length_append, bytesOf_length] at h1
        exact Nat.le_trans h1 HL.out)
      have HW := Hd.mk hw; clear hw
      have HC : Hd (cat (ss.take (k + 1)) = cat (ss.take k) ++ bytesOf (ss.getD k ByteArray.empty)) := ⟨cat_take ss k (by rw [← HNL.out]; exact hlt)⟩
      generalize ss.getD k ByteArray.empty = s at *
      clear hcell
      go_wp2_with (go_at_call 16; refine HW.out.mono ?_; rintro e w2 ⟨rfl, r', hg', hr', hf'⟩)
      rw [← HC.out] at hg'
      have hgl := hg.lt.1
      have hz := hb.size
      exact ⟨⟨k + 1, by omega, by go_num, r', hg', by omega, hf'.hb hres (by omega), hf'.below hb (Nat.le_refl _) (by omega)⟩, by simp [intOf]; omega⟩
    · obtain rfl : k = n := by omega
      have hsum := hg.sum hvr hnr
      have hcat : cat (ss.take k) = cat ss := by rw [HNL.out, List.take_length]
      rw [hcat] at hsum
      obtain ⟨R, hRe⟩ : ∃ R, R = hashN (cat ss) := ⟨_, rfl⟩
      rw [← hRe] at hsum
      have HSUM := Hd.mk hsum
      have hS : (Tryd.prog.info? 27).map (·.size) = some (octets R).size := info27 _ (by rw [hRe]; exact outK_len _ _)
      have hlz : (octets (zeros 32)).size = (octets R).size := by rw [octets_size, octets_size, hRe]; exact (outK_len _ _).symm
      have HRE := Hd.mk hRe
      clear hRe hsum hcat hg
      go_wp2_with (first
        | (go_at_call 17; refine HSUM.out.mono ?_; rintro e w2 ⟨rfl, hb2⟩)
        | refine wpList_store_row rfl 27 _ _ rfl w.heap.size (octets R) rfl rfl 27 (octets (zeros 32)) (hres.below hb2 hres.lt).heap hS hlz (octets_one _) ?_)
      exact bodyPost_ret (v := .agg (octets R)) (results_cell_row rfl _ _ w.heap.size 27 (octets R) (0, 0) _ rfl ((hres.below hb2 hres.lt).row _).heap Tryd.underlying27 rfl hS) rfl ⟨by rw [HRE.out], below_setRow (hb.trans (hb2.mono hb.size)) (Nat.le_refl _) _⟩
end Go.Proofs.YtkinhfaehfldjaaDoor
