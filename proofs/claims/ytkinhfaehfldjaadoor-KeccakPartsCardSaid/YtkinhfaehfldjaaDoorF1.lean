/- The law KeccakParts: however bytes are cut, the hash is that of all of them. For every list of strings; the tables as the program's text lays them. -/
import Derived.Test.YtkinhfaehfldjaaDoorD2
import Derived.Test.YtkinhfaehfldjaaDoorE0
import Derived.SliceStrings
namespace Go.Proofs.YtkinhfaehfldjaaDoor
open Go.ChangeShapes Go.WideShapes Go.ChangeAt Go.RowKit

theorem bytesOf_append (s t : ByteArray) : bytesOf (s ++ t) = bytesOf s ++ bytesOf t := by simp [bytesOf]
theorem bytesOf_empty : bytesOf ByteArray.empty = [] := rfl
theorem strCs_snoc (L : List ByteArray) (p : ByteArray) : strCs (L ++ [p]) = strCs L ++ [.string p] := by simp [strCs]
theorem strCs_len (L : List ByteArray) : (strCs L).length = L.length := by simp [strCs]
theorem info9 : ∃ i, Tryd.prog.info? 9 = some i ∧ i.zero = some (.string ByteArray.empty) ∧ i.size = 1 ∧ i.bytes = 16 := ⟨_, rfl, rfl, rfl, rfl⟩
theorem cat_nil : cat [] = [] := rfl

/-- memory while the parts are written: two hashes that were given these bytes, the list of the parts -/
structure PartsM (w : World) (g gz : Nat) (rg rz : Nat) (la : Option Addr) (lc lr : Nat) (bh bz : List Nat) (L : List ByteArray) (W : World) : Prop where
  h : Going W g rg bh
  z : Going W gz rz bz
  l : RestV W la lc lr g 9 (strCs L)
  b : Below w.heap.size w W
  ne : g ≠ gz
  d1 : rg ≠ gz
  d2 : rz ≠ g
  d3 : rg ≠ rz
  d4 : lr ≠ g → lr ≠ gz ∧ lr ≠ rg ∧ lr ≠ rz
  d5 : lr < W.heap.size
  eg : w.heap.size ≤ g
  ez : w.heap.size ≤ gz
  erg : w.heap.size ≤ rg
  erz : w.heap.size ≤ rz
  el : w.heap.size ≤ lr
section
variable {w : World} {g gz rg rz : Nat} {la : Option Addr} {lc lr : Nat} {bh bz : List Nat} {L : List ByteArray} {W : World}
theorem PartsM.below {W' : World} (h : PartsM w g gz rg rz la lc lr bh bz L W) (hb : Below W.heap.size W W') : PartsM w g gz rg rz la lc lr bh bz L W' :=
  ⟨h.h.below hb (Nat.le_refl _), h.z.below hb (Nat.le_refl _), h.l.frm (S := fun _ => False) (Frm.of_below hb) (fun _ => id), h.b.trans (hb.mono h.b.size), h.ne, h.d1, h.d2, h.d3, h.d4, Nat.lt_of_lt_of_le h.d5 hb.size, h.eg, h.ez, h.erg, h.erz, h.el⟩
theorem PartsM.strs (h : PartsM w g gz rg rz la lc lr bh bz L W) : Strs W la L := by
  intro i hi
  obtain ⟨o, ha, hc⟩ := h.l.cell i (by rw [strCs_len]; exact hi)
  refine ⟨lr, o, ha, h.d5, ?_⟩
  rw [hc]
  simp [strCs, List.getElem?_eq_getElem hi]
theorem PartsM.append (h : PartsM w g gz rg rz la lc lr bh bz L W) {la' : Option Addr} {lc' lr' : Nat} {p : ByteArray} {W' : World} (hR : RestV W' la' lc' lr' g 9 (strCs L ++ [.string p])) (hr : lr' = lr ∨ W.heap.size ≤ lr')
    (hF : Frm (fun k => k = lr ∧ lr ≠ g) W W') : PartsM w g gz rg rz la' lc' lr' bh bz (L ++ [p]) W' := by
  have h1 := h.h.lt; have h2 := h.z.lt; have h3 := h.d4; have h4 := h.d5; have h5 := h.ne; have h6 := h.el; have h7 := h.b.size; have h8 := hF.size
  have hlt : lr' < W'.heap.size := by
    rcases hR with ⟨_, _, hx, _⟩ | ⟨_, _, _, _, hb, _⟩
    · simp at hx
    · exact hb.lt
  exact ⟨h.h.frm hF (by omega) (by omega), h.z.frm hF (by omega) (by omega), by rw [strCs_snoc]; exact hR, hF.below h.b (Nat.le_refl _) (by omega), h.ne, h.d1, h.d2, h.d3, by omega, hlt, h.eg, h.ez, h.erg, h.erz, by omega⟩
theorem PartsM.writeZ (h : PartsM w g gz rg rz la lc lr bh bz L W) {s : ByteArray} {e : Ending} {W' : World} (hw : WrotePost W gz rz bz s e W') : e = .returned (.int .i64 (s.size : Int)) ∧ ∃ rz', PartsM w g gz rg rz' la lc lr bh (bz ++ bytesOf s) L W' := by
  obtain ⟨he, r', hz, hr, hF⟩ := hw
  have h1 := h.h.lt; have h2 := h.z.lt; have h3 := h.d4; have h4 := h.d5; have h5 := h.ne; have h6 := h.el; have h7 := h.b.size; have h8 := hF.size; have h9 := h.d1; have h10 := h.d2; have h11 := h.d3; have h12 := h.ez; have h13 := h.erz
  exact ⟨he, r', h.h.frm hF (by omega) (by omega), hz, h.l.frm hF (by omega), hF.below h.b (Nat.le_refl _) (by omega), h.ne, h.d1, by omega, by omega, by omega, by omega, h.eg, h.ez, h.erg, by omega, h.el⟩
theorem PartsM.writeH (h : PartsM w g gz rg rz la lc lr bh bz L W) {s : ByteArray} {e : Ending} {W' : World} (hw : WrotePost W g rg bh s e W') : e = .returned (.int .i64 (s.size : Int)) ∧ ∃ rg', PartsM w g gz rg' rz la lc lr (bh ++ bytesOf s) bz L W' := by
  obtain ⟨he, r', hz, hr, hF⟩ := hw
  have h1 := h.h.lt; have h2 := h.z.lt; have h3 := h.d4; have h4 := h.d5; have h5 := h.ne; have h6 := h.el; have h7 := h.b.size; have h8 := hF.size; have h9 := h.d1; have h10 := h.d2; have h11 := h.d3; have h12 := h.eg; have h13 := h.erg
  exact ⟨he, r', hz, h.z.frm hF (by omega) (by omega), h.l.frm hF (by omega), hF.below h.b (Nat.le_refl _) (by omega), h.ne, by omega, h.d2, by omega, by omega, by omega, h.eg, h.ez, by omega, h.erz, h.el⟩
end
structure ZeroM (w : World) (g : Nat) (W : World) : Prop where
  h : Going W g g []
  b : Below w.heap.size w W
theorem ZeroM.below {w : World} {g : Nat} {W W' : World} (h : ZeroM w g W) (hb : Below W.heap.size W W') : ZeroM w g W' := ⟨h.h.below hb (Nat.le_refl _), h.b.trans (hb.mono h.b.size)⟩

set_option maxRecDepth 100000 in
set_option maxHeartbeats 2000000 in
theorem parts_walk (n : Nat) (a : Option Addr) (c : Nat) (ts : Nat → ByteArray) (w : World) (hv : Vars w) (hnm : n ≤ maxLen)
    (hts : ∀ i, i < n → ∃ gp o, a = some ⟨gp, o, none⟩ ∧ gp < w.heap.size ∧ w.cell? ⟨gp, o + i, none⟩ = some (.string (ts i))) :
    Calls Tryd.prog 7 #[.slice a n c] w fun e w' => e = .returned (.bool true) ∧ Below w.heap.size w w' := by
  have hn := hv.size
  unfold maxLen at hnm
  have HAW := Hd.mk (awake_any w hv hn)
  have HV := Hd.mk hv; have HTS := Hd.mk hts; clear hv hts
  go_enter Tryd.func7, Tryd.ntmps7
  go_upto_region 2 with (go_at_call 10; refine HAW.out.mono ?_; rintro e w1 ⟨rfl, hb1⟩)
  have hs1 := hb1.size
  have hn1 : 3 ≤ w1.heap.size := Nat.le_trans hn hs1
  have HN := Hd.mk (new_going w1 hn1)
  go_upto_region 3 with (go_at_call 15; refine HN.out.mono ?_; rintro e w2 ⟨rfl, hg2, hb2⟩)
  clear HN
  have hl2 := hg2.lt.1
  have hB2 : Below w.heap.size w w2 := hb1.trans (hb2.mono hs1)
  have hn2 : 3 ≤ w2.heap.size := Nat.le_trans hn1 hb2.size
  clear hb1 hb2
  go_wp2_with fail
  have hgz : Going (w2.alloc (.cells (hcells (zeros 25) none 0 0 0) 39)) w2.heap.size w2.heap.size [] := ⟨none, 0, HB.new w2 _ _, rfl, .inl ⟨rfl, rfl, rfl, rfl⟩, fun i hi => absurd hi (Nat.not_lt_zero _), hn2, hn2⟩
  have hbz : Below w2.heap.size w2 (w2.alloc (.cells (hcells (zeros 25) none 0 0 0) 39)) := (Below.refl _ _).alloc (Nat.le_refl _) _
  have hm0 : PartsM w w1.heap.size w2.heap.size w1.heap.size w2.heap.size none 0 w1.heap.size [] [] [] (w2.alloc (.cells (hcells (zeros 25) none 0 0 0) 39)) :=
    ⟨hg2.below hbz (Nat.le_refl _), hgz, RestV.nil _ _ _, hB2.trans (hbz.mono hB2.size), by omega, by omega, by omega, by omega, by omega, by have := hbz.size; omega, hs1, hB2.size, hs1, hB2.size, hs1⟩
  change Code.wp _ _ _ _ (w2.alloc (.cells (hcells (zeros 25) none 0 0 0) 39))
  clear hg2 hgz hbz hB2 hl2
  generalize w2.alloc (.cells (hcells (zeros 25) none 0 0 0) 39) = w3 at *
  generalize w1.heap.size = g at *
  generalize w2.heap.size = gz at *
  obtain ⟨i9, hi9, hz9, hs9, hy9⟩ := info9
  have HI9 := Hd.mk hi9; have HZ9 := Hd.mk hz9; have HS9 := Hd.mk hs9; have HY9 : Hd (i9.bytes ≤ 16) := ⟨by rw [hy9]; decide⟩
  clear hi9 hz9 hs9 hy9
  go_loopw [6, 7, 8] (fun s6 s7 s8 W => ∃ (k : Nat) (la : Option Addr) (lc lr rg rz : Nat) (L : List ByteArray) (A : ByteArray), k ≤ n ∧ k ≤ 30 ∧ s6 = .string A ∧ s7 = .slice la k lc ∧ s8 = .int .i64 (k : Int) ∧ Hd (L.length = k) ∧ Hd (bytesOf A = cat L) ∧ Hd ((cat L).length ≤ 600 * k) ∧
    PartsM w g gz rg rz la lc lr (cat L) (cat L) L W) (fun _ _ s8 _ => 30 - (intOf s8).toNat)
  case atStart => exact ⟨0, none, 0, g, g, gz, [], ByteArray.empty, by omega, by omega, rfl, rfl, rfl, ⟨rfl⟩, ⟨rfl⟩, ⟨Nat.le_refl _⟩, hm0⟩
  case round =>
    clear hm0
    obtain ⟨k, la, lc, lr, rg, rz, L, A, hkn, hk30, rfl, rfl, rfl, HLk, HA, HCL, hm⟩ := hrel
    by_cases h1 : k < n ∧ k < 30
    · obtain ⟨h1, h2⟩ := h1
      obtain ⟨gp, o, rfl, hgp, hcell⟩ := HTS.out k h1
      have hc := (hm.b.cell (p := ⟨gp, o + k, none⟩) hgp).trans hcell
      clear hcell
      generalize ts k = p0 at *
      go_upto_if 32 with fail
      go_cut [9] (fun v W => ∃ p : ByteArray, v = .string p ∧ p.size ≤ 600 ∧ W = wr)
      case first =>
        by_cases h : 600 < p0.size
        · go_wp2_with fail
          go_meet
          exact ⟨p0.extract 0 600, rfl, by simp; omega, rfl⟩
        · go_wp2_with fail
          go_meet
          exact ⟨p0, rfl, by omega, rfl⟩
      case rest =>
      obtain ⟨p, rfl, hp, hw⟩ := hcut
      have hw' := hw.symm; clear hw; subst hw'
      have hm1 := hm.below (W' := wr.alloc (.cells #[.string p] 9)) ((Below.refl _ _).alloc (Nat.le_refl _) _)
      have HLk' : Hd (k = (strCs L).length) := ⟨by rw [strCs_len, HLk.out]⟩
      have HSRC : Hd (Src Tryd.prog 1 34 (.slice (some ⟨wr.heap.size, 0, none⟩) 1 1) 1 [.string p] (wr.alloc (.cells #[.string p] 9))) := ⟨src_one Tryd.underlying34 (HB.new wr _ _) rfl⟩
      clear hc
      go_upto_region 15 with (at_builtin; refine wpList_append_restV rfl _ _ 34 34 9 rfl la lc lr g (strCs L) [.string p] k HLk'.out rfl hm1.l hm1.h.lt.1 Tryd.underlying34 HI9.out HZ9.out rfl HS9.out HY9.out _ 1 rfl HSRC.out (by have := HLk'.out; omega) ?_; intro la2 lc2 w2 lr2 hR2 hr2 hF2; have hm2 := hm1.append hR2 hr2 hF2; clear hR2 hr2 hF2)
      clear hm1 hm HSRC HLk'
      have hbig : ¬ 9223372036854775807 < A.size + p.size := by
        have h1 := HCL.out; have h2 := congrArg List.length HA.out; rw [bytesOf_length] at h2; omega
      go_upto_region 16 with fail
      clear hbig
      have hAp : bytesOf (A ++ p) = cat (L ++ [p]) := by rw [bytesOf_append, HA.out, cat_snoc]
      have hcp : cat (L ++ [p]) = cat L ++ bytesOf p := cat_snoc L p
      have hbp : (cat L).length + p.size ≤ 600 * (k + 1) := by have := HCL.out; omega
      have HAp := Hd.mk hAp; have HCP := Hd.mk hcp; have HBP := Hd.mk hbp
      clear hAp hcp hbp
      have HW := Hd.mk (hm2.z.write (HV.out.below hm2.b hn) (Nat.le_trans hn hm2.b.size) p (by have := HBP.out; omega))
      go_upto_region 17 with (go_at_call 16; refine HW.out.mono ?_; intro e w4 hw4; obtain ⟨rfl, rz4, hm4⟩ := hm2.writeZ hw4; clear hw4)
      clear HW hm2
      rw [← HCP.out] at hm4
      have hBs : (A ++ p).size = (cat (L ++ [p])).length := by rw [← HAp.out, bytesOf_length]
      have hXl : (cat (L ++ [p])).length ≤ 600 * (k + 1) := by rw [HCP.out, List.length_append, bytesOf_length]; exact HBP.out
      have hLl : (L ++ [p]).length = k + 1 := by rw [List.length_append, HLk.out]; rfl
      have HW := Hd.mk (hm4.h.write (HV.out.below hm4.b hn) (Nat.le_trans hn hm4.b.size) p (by have := HBP.out; omega))
      have HWW : Hd (∀ (e : Ending) (W' : World), WrotePost w4 g rg (cat L) p e W' → e = .returned (.int .i64 (p.size : Int)) ∧ ∃ rg', PartsM w g gz rg' rz4 la2 lc2 lr2 (cat (L ++ [p])) (cat (L ++ [p])) (L ++ [p]) W') := ⟨fun e W' hw => by rw [HCP.out] at hm4 ⊢; exact hm4.writeH hw⟩
      clear hm4 HBP HA HCL
      generalize A ++ p = B at *
      generalize L ++ [p] = L' at *
      obtain ⟨N, hN⟩ : ∃ N, N = (cat L').length := ⟨_, rfl⟩
      rw [← hN] at hBs
      obtain ⟨R, hR⟩ : ∃ R, R = hashN (cat L') := ⟨_, rfl⟩
      have hRl : R.length = 32 := by rw [hR]; exact outK_len _ _
      have heq : ∀ W : World, (Op.equalIn 10000 27 (.agg (octets R)) (.agg (octets R))).run Tryd.prog W = .ok true W := fun W => (eqIn27 W R R hRl hRl).trans (by simp)
      have hSH : ∀ {W : World} {rg rz : Nat} {la : Option Addr} {lc lr : Nat}, PartsM w g gz rg rz la lc lr (cat L') (cat L') L' W → Calls Tryd.prog 17 #[.pointer (some ⟨g, 0, none⟩)] W fun e W' => e = .returned (.agg (octets R)) ∧ Below W.heap.size W W' :=
        fun hm => by rw [hR]; exact hm.h.sum (HV.out.below hm.b hn) (Nat.le_trans hn hm.b.size)
      have hLN : ∀ {W : World} {rg rz : Nat} {la : Option Addr} {lc lr : Nat}, PartsM w g gz rg rz la lc lr (cat L') (cat L') L' W → Calls Tryd.prog 18 #[.pointer (some ⟨g, 0, none⟩)] W fun e W' => e = .returned (.int .i64 (N : Int)) ∧ W' = W :=
        fun hm => by rw [hN]; exact hm.h.len
      have hSA : ∀ {W : World} {rg rz : Nat} {la : Option Addr} {lc lr : Nat}, PartsM w g gz rg rz la lc lr (cat L') (cat L') L' W → ∀ g' c, HB W g' #[.string B] 9 → Calls Tryd.prog 13 #[.slice (some ⟨g', 0, none⟩) 1 c] W fun e W' => e = .returned (.agg (octets R)) ∧ Below W.heap.size W W' :=
        fun hm g' c hb => by
          have := sum_any _ _ [B] c (strs_one hb) (by rw [cat_one, HAp.out]; omega) (by simp [maxLen]) (HV.out.below hm.b hn) (Nat.le_trans hn hm.b.size)
          rw [cat_one, HAp.out, ← hR] at this
          exact this
      have HSH := Hd.mk (@hSH); have HLN := Hd.mk (@hLN); have HSA := Hd.mk (@hSA)
      have HXl := Hd.mk hXl; have HLl := Hd.mk hLl
      clear hSH hLN hSA hXl hLl hN hR
      go_wp2_with (first
        | (go_at_call 16; refine HW.out.mono ?_; intro e w5 hw5; obtain ⟨rfl, rg5, hm5⟩ := HWW.out e w5 hw5; clear hw5)
        | (go_at_call 17; refine (HSH.out hm5).mono ?_; rintro e w6 ⟨rfl, hb6⟩; have hm6 := (hm5.below hb6).below (W' := w6.alloc (.cells #[.string B] 9)) ((Below.refl _ _).alloc (Nat.le_refl _) _))
        | (go_at_call 13; refine (HSA.out hm6 _ _ (HB.new _ _ _)).mono ?_; rintro e w7 ⟨rfl, hb7⟩; have hm7 := hm6.below hb7)
        | (go_at_call 18; refine (HLN.out hm7).mono ?_; rintro e w8 ⟨rfl, rfl⟩))
      exact ⟨⟨k + 1, la2, lc2, lr2, rg5, rz4, L', B, by omega, by omega, rfl, rfl, by go_num, HLl, HAp, HXl, hm7⟩, by simp [intOf]; omega⟩
    · have hx : (k < n ∧ ¬ k < 30) ∨ ¬ k < n := by omega
      clear h1
      obtain ⟨R, hR⟩ : ∃ R, R = hashN (cat L) := ⟨_, rfl⟩
      obtain ⟨R0, hR0⟩ : ∃ R, R = hashN [] := ⟨_, rfl⟩
      have hRl : R.length = 32 := by rw [hR]; exact outK_len _ _
      have hRl0 : R0.length = 32 := by rw [hR0]; exact outK_len _ _
      have heq : ∀ W : World, (Op.equalIn 10000 27 (.agg (octets R)) (.agg (octets R))).run Tryd.prog W = .ok true W := fun W => (eqIn27 W R R hRl hRl).trans (by simp)
      have heq0 : ∀ W : World, (Op.equalIn 10000 27 (.agg (octets R0)) (.agg (octets R0))).run Tryd.prog W = .ok true W := fun W => (eqIn27 W R0 R0 hRl0 hRl0).trans (by simp)
      have hSH : ∀ {W : World}, PartsM w g gz rg rz la lc lr (cat L) (cat L) L W → Calls Tryd.prog 17 #[.pointer (some ⟨g, 0, none⟩)] W fun e W' => e = .returned (.agg (octets R)) ∧ Below W.heap.size W W' :=
        fun hm => by rw [hR]; exact hm.h.sum (HV.out.below hm.b hn) (Nat.le_trans hn hm.b.size)
      have hSZ : ∀ {W : World}, PartsM w g gz rg rz la lc lr (cat L) (cat L) L W → Calls Tryd.prog 17 #[.pointer (some ⟨gz, 0, none⟩)] W fun e W' => e = .returned (.agg (octets R)) ∧ Below W.heap.size W W' :=
        fun hm => by rw [hR]; exact hm.z.sum (HV.out.below hm.b hn) (Nat.le_trans hn hm.b.size)
      have hSA : ∀ {W : World}, PartsM w g gz rg rz la lc lr (cat L) (cat L) L W → ∀ g' c, HB W g' #[.string A] 9 → Calls Tryd.prog 13 #[.slice (some ⟨g', 0, none⟩) 1 c] W fun e W' => e = .returned (.agg (octets R)) ∧ Below W.heap.size W W' :=
        fun hm g' c hb => by
          have := sum_any _ _ [A] c (strs_one hb) (by rw [cat_one, HA.out]; have := HCL.out; omega) (by simp [maxLen]) (HV.out.below hm.b hn) (Nat.le_trans hn hm.b.size)
          rw [cat_one, HA.out, ← hR] at this
          exact this
      have hSL : ∀ {W : World}, PartsM w g gz rg rz la lc lr (cat L) (cat L) L W → Calls Tryd.prog 13 #[.slice la k lc] W fun e W' => e = .returned (.agg (octets R)) ∧ Below W.heap.size W W' :=
        fun hm => by
          have := sum_any _ la L lc hm.strs (by have := HCL.out; omega) (by rw [HLk.out]; unfold maxLen; omega) (HV.out.below hm.b hn) (Nat.le_trans hn hm.b.size)
          rw [HLk.out, ← hR] at this
          exact this
      have hRS : ∀ {W : World}, PartsM w g gz rg rz la lc lr (cat L) (cat L) L W → Calls Tryd.prog 19 #[.pointer (some ⟨g, 0, none⟩)] W fun e W' => e = .returned (.tuple #[]) ∧ ZeroM w g W' :=
        fun hm => hm.h.reset.mono fun e W' ⟨he, h1, h2⟩ => ⟨he, h1, h2.below hm.b (Nat.le_refl _) (fun x hx => by have := hm.eg; omega)⟩
      have hG0 : ∀ {W : World}, ZeroM w g W → Calls Tryd.prog 17 #[.pointer (some ⟨g, 0, none⟩)] W fun e W' => e = .returned (.agg (octets R0)) ∧ Below W.heap.size W W' :=
        fun hm => by rw [hR0]; exact hm.h.sum (HV.out.below hm.b hn) (Nat.le_trans hn hm.b.size)
      have hN0 : ∀ {W : World}, ZeroM w g W → Calls Tryd.prog 13 #[.slice none 0 0] W fun e W' => e = .returned (.agg (octets R0)) ∧ Below W.heap.size W W' :=
        fun hm => by
          have := sum_any _ none [] 0 (fun i hi => absurd hi (Nat.not_lt_zero _)) (by simp [cat]) (by simp) (HV.out.below hm.b hn) (Nat.le_trans hn hm.b.size)
          rw [cat_nil, ← hR0] at this
          exact this
      have hL0 : ∀ {W : World}, ZeroM w g W → Calls Tryd.prog 18 #[.pointer (some ⟨g, 0, none⟩)] W fun e W' => e = .returned (.int .i64 ((0 : Nat) : Int)) ∧ W' = W := fun hm => hm.h.len
      have HSH := Hd.mk (@hSH); have HSZ := Hd.mk (@hSZ); have HSA := Hd.mk (@hSA); have HSL := Hd.mk (@hSL); have HRS := Hd.mk (@hRS); have HG0 := Hd.mk (@hG0); have HN0 := Hd.mk (@hN0); have HL0 := Hd.mk (@hL0)
      clear hSH hSZ hSA hSL hRS hG0 hN0 hL0 hR hR0
      rcases hx with ⟨h1, h2⟩ | h1
      all_goals
        go_wp2_with (first
          | (go_at_call 18; refine (HL0.out hm12).mono ?_; rintro e w13 ⟨rfl, rfl⟩)
          | (go_at_call_of 13 (Value.slice none 0 0); refine (HN0.out hm11).mono ?_; rintro e w12 ⟨rfl, hb12⟩; have hm12 := hm11.below hb12)
          | (go_at_call_of 17 (Value.pointer (some ⟨g, 0, none⟩)); refine (HG0.out hm10).mono ?_; rintro e w11 ⟨rfl, hb11⟩; have hm11 := hm10.below hb11)
          | (go_at_call 19; refine (HRS.out hm9).mono ?_; rintro e w10 ⟨rfl, hm10⟩)
          | (go_at_call_of 13 (Value.slice la k lc); refine (HSL.out hm7).mono ?_; rintro e w8 ⟨rfl, hb8⟩; have hm8 := (hm7.below hb8).below (W' := w8.alloc (.cells #[.string A] 9)) ((Below.refl _ _).alloc (Nat.le_refl _) _))
          | (go_at_call 13; refine (HSA.out hm8 _ _ (HB.new _ _ _)).mono ?_; rintro e w9 ⟨rfl, hb9⟩; have hm9 := hm8.below hb9)
          | (go_at_call_of 17 (Value.pointer (some ⟨g, 0, none⟩)); refine (HSH.out hm6).mono ?_; rintro e w7 ⟨rfl, hb7⟩; have hm7 := hm6.below hb7)
          | (go_at_call_of 17 (Value.pointer (some ⟨gz, 0, none⟩)); refine (HSZ.out hm).mono ?_; rintro e w6 ⟨rfl, hb6⟩; have hm6 := hm.below hb6))
        go_ret
        exact ⟨rfl, hm12.b⟩
end Go.Proofs.YtkinhfaehfldjaaDoor
