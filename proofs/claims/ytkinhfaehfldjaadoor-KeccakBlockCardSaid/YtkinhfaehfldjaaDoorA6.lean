/- The walk of (*Hash).Write. -/
import Derived.Test.YtkinhfaehfldjaaDoorA5
import Derived.Test.YtkinhfaehfldjaaDoorA1
namespace Go.Proofs.YtkinhfaehfldjaaDoor
open Go.RowKit

/-- whole blocks are taken in; what is left is less than a block -/
def absG : Nat → List Nat → List Nat → List Nat × List Nat
  | 0, L, xs => (L, xs)
  | k + 1, L, xs => if 136 ≤ xs.length then absG k (blockN L (xs.take 136)) (xs.drop 136) else (L, xs)
def absA (L xs : List Nat) : List Nat × List Nat := absG xs.length L xs
theorem absG_more : ∀ (k m : Nat) (L xs : List Nat), xs.length ≤ k → xs.length ≤ m → absG k L xs = absG m L xs
  | 0, m, L, xs, hk, _ => by
    cases m with
    | zero => rfl
    | succ m => simp only [absG]; rw [if_neg (by omega)]
  | k + 1, 0, L, xs, _, hm => by simp only [absG]; rw [if_neg (by omega)]
  | k + 1, m + 1, L, xs, hk, hm => by
    simp only [absG]
    split
    · exact absG_more k m _ _ (by simp; omega) (by simp; omega)
    · rfl
theorem absA_step (L xs : List Nat) (h : 136 ≤ xs.length) : absA L xs = absA (blockN L (xs.take 136)) (xs.drop 136) := by
  obtain ⟨k, hk⟩ : ∃ k, xs.length = k + 1 := ⟨xs.length - 1, by omega⟩
  unfold absA
  rw [hk]
  simp only [absG]
  rw [if_pos h]
  exact absG_more _ _ _ _ (by simp; omega) (Nat.le_refl _)
theorem absA_done (L xs : List Nat) (h : xs.length < 136) : absA L xs = (L, xs) := by
  unfold absA
  cases hx : xs.length with
  | zero => rfl
  | succ k => simp only [absG]; rw [if_neg (by omega)]

structure WMem (wr : World) (g r : Nat) (L : List Nat) (a : Option Addr) (len c n : Nat) (cs : Array Value) (W : World) : Prop where
  h : HB W g (hcells L a len c n) 39
  r : HB W r cs 5
  b : Below wr.heap.size wr W

def WritePost (w : World) (g r : Nat) (L xs : List Nat) (n : Nat) (s : ByteArray) (e : Ending) (w' : World) : Prop :=
  e = .returned (.int .i64 (s.size : Int)) ∧ ∃ r' a c, HashAt w' g r' (absA L (xs ++ bytesOf s)).1 (absA L (xs ++ bytesOf s)).2 (n + s.size) a c ∧ (absA L (xs ++ bytesOf s)).2.length < 136 ∧
    (r' = r ∨ w.heap.size ≤ r') ∧ Frm (fun k => k = g ∨ k = r) w w'

theorem oct_append {xs : List Nat} (h : ∀ i, i < xs.length → nth xs i < 256) (s : ByteArray) : ∀ i, i < (xs ++ bytesOf s).length → nth (xs ++ bytesOf s) i < 256 := by
  intro i hi
  by_cases hx : i < xs.length
  · rw [nth_append_left _ _ _ hx]; exact h i hx
  · obtain ⟨m, rfl⟩ : ∃ m, i = xs.length + m := ⟨i - xs.length, by omega⟩
    rw [nth_append_right]; exact bytesOf_lt s m (by simp at hi; omega)
theorem oct_drop {xs : List Nat} (h : ∀ i, i < xs.length → nth xs i < 256) (k : Nat) : ∀ i, i < (xs.drop k).length → nth (xs.drop k) i < 256 := by
  intro i hi
  rw [nth_drop]; exact h _ (by simp at hi; omega)

theorem info5 : ∃ i, Tryd.prog.info? 5 = some i ∧ i.zero = some (.int .u8 0) ∧ i.size = 1 ∧ i.bytes = 1 := ⟨_, rfl, rfl, rfl, rfl⟩
theorem run_cut_low (r o len c : Nat) (h : 136 ≤ c) (W : World) :
    (Instr.slice 37 (.slice (some ⟨r, o, none⟩) len c) none (some (.int .i64 136)) none).run Tryd.prog W = .ok (.slice (some ⟨r, o, none⟩) 136 c) W := by
  obtain ⟨i, hi, _, hs, _⟩ := info5
  simp [Instr.slice, run_underlying Tryd.underlying37, Instr.sliceBounds, Instr.sliceBound, asIntOf, sizeOf, typeInfo, show (136 : Int) ≤ c by omega, Addr.add, hi]
theorem run_cut_high (r o len c : Nat) (h : 136 ≤ len) (hc : len ≤ c) (W : World) :
    (Instr.slice 37 (.slice (some ⟨r, o, none⟩) len c) (some (.int .i64 136)) none none).run Tryd.prog W = .ok (.slice (some ⟨r, if c = 136 then o else o + 136, none⟩) (len - 136) (c - 136)) W := by
  obtain ⟨i, hi, _, hs, _⟩ := info5
  simp [Instr.slice, run_underlying Tryd.underlying37, Instr.sliceBounds, Instr.sliceBound, asIntOf, sizeOf, typeInfo, show (136 : Int) ≤ len by omega, Addr.add, hi, hs]
  split <;> rfl

set_option maxRecDepth 100000 in
set_option maxHeartbeats 1000000 in
theorem write_any (w : World) (g r : Nat) (L xs : List Nat) (n : Nat) (a : Option Addr) (c : Nat) (s : ByteArray) (h : HashAt w g r L xs n a c) (hxn : xs.length ≤ n) (hsz : n + s.size ≤ 140737488355328) (hv : Vars w) (hn : 3 ≤ w.heap.size) :
    Calls Tryd.prog 16 #[.pointer (some ⟨g, 0, none⟩), .string s] w (WritePost w g r L xs n s) := by
  have hc26 := h.hb.cell 26
  rw [hcells_26 h.len] at hc26
  have hf26 := h.hb.free 26
  have H := Hd.mk h
  have hb1 := h.hb.set26 h.len (n + s.size)
  have hx1 : Frm (fun k => k = g ∨ k = r) w (w.setCell ⟨g, 26, none⟩ (.int .i64 ((n + s.size : Nat) : Int))) := frm_setCell _ _ _ (.inl rfl)
  have hr1 : Rest (w.setCell ⟨g, 26, none⟩ (.int .i64 ((n + s.size : Nat) : Int))) a c r g xs := h.rest.frm (frm_setCell (S := fun k => k = g) _ _ rfl) (fun x => x)
  have hc25 := hb1.cell 25
  rw [hcells_25 h.len] at hc25
  have hcast : ((n + s.size : Nat) : Int) = (n : Int) + (s.size : Int) := by omega
  rw [hcast] at hb1 hx1 hr1 hc25
  clear hcast
  have hgl := h.hb.lt
  clear h
  have HSZ : Hd (xs.length + s.size ≤ 140737488355328) := ⟨by omega⟩
  have e1 : wrap64 ((n : Int) + (s.size : Int)) = (n : Int) + (s.size : Int) := IntWalk.wrap64_in _ (by omega)
  have e2 : IntKind.i64.wrap ((n : Int) + (s.size : Int)) = (n : Int) + (s.size : Int) := IntWalk.i64_in _ (by omega)
  clear hsz hxn
  go_enter Tryd.func16, Tryd.ntmps16
  go_wp2_with (at_builtin; refine wpList_append_rest rfl _ _ rfl a c r g xs rfl hr1 (by simpa using hgl) s rfl HSZ.out ?_; intro a' c' W' r' hR' hr' hF'; have hb2 := hF'.hb hb1 (fun x => x.2 x.1.symm); have c2 := hb2.cell 25; rw [hcells_25 H.out.len] at c2; have f2 := hb2.free 25)
  clear e1 e2
  have hb3 := hb2.set25 H.out.len a' (xs.length + s.size) c'
  have hx3 : Frm (fun k => k = g ∨ k = r) w (W'.setCell ⟨g, 25, none⟩ (.slice a' (xs.length + s.size) c')) :=
    (hx1.trans (hF'.mono fun k _ hk => .inr hk.1)).trans (frm_setCell _ _ _ (.inl rfl))
  have hR3 : Rest (W'.setCell ⟨g, 25, none⟩ (.slice a' (xs.length + s.size) c')) a' c' r' g (xs ++ bytesOf s) := hR'.frm (frm_setCell (S := fun k => k = g) _ _ rfl) (fun x => x)
  have hrr : r' = r ∨ w.heap.size ≤ r' := by simpa using hr'
  have hr3 : 3 ≤ r' := by have := H.out.r3; omega
  have hA0 : HashAt (W'.setCell ⟨g, 25, none⟩ (.slice a' (xs.length + s.size) c')) g r' L (xs ++ bytesOf s) (n + s.size) a' c' :=
    ⟨by rw [List.length_append, bytesOf_length]; exact hb3, H.out.len, hR3, oct_append H.out.oct s, H.out.g3, hr3⟩
  generalize W'.setCell ⟨g, 25, none⟩ (.slice a' (xs.length + s.size) c') = w3 at *
  clear hb3 hR3 c2 f2 hb2 hF' hr' hR' hc25 hr1 hx1 hb1 hc26 hf26 hr3
  go_loopg [] (xs ++ bytesOf s).length (fun gk wr => ∃ (L' xs' : List Nat) (a : Option Addr) (c r' : Nat), gk = xs'.length ∧ HashAt wr g r' L' xs' (n + s.size) a c ∧ Hd (absA L' xs' = absA L (xs ++ bytesOf s)) ∧ (r' = r ∨ w.heap.size ≤ r') ∧ Frm (fun k => k = g ∨ k = r) w wr)
  case atStart => exact ⟨L, _, a', c', r', rfl, hA0, ⟨rfl⟩, hrr, hx3⟩
  case round =>
    clear hA0 hx3 hrr w3 r'
    obtain ⟨L', ys, a', c', r', rfl, hA, hE, hrr, hx⟩ := hrel
    have hc25 := hA.hb.cell 25
    rw [hcells_25 hA.len] at hc25
    by_cases hlt : 136 ≤ ys.length
    · have hrest := hA.rest
      rcases hrest with ⟨_, _, rfl, _⟩ | ⟨hne, o, cs, rfl, hbr, h1, h2, h3⟩
      · simp at hlt
      · have HC := Hd.mk h3; clear h3
        have HI : (136 : Int) ≤ (ys.length : Int) := by omega
        go_upto_region 6 with fail
        refine wp_region_quiet_tail 11 (WMem wr g r' L' (some ⟨r', o, none⟩) ys.length c' (n + s.size) cs) (by kernel_rfl) (by kernel_rfl) ⟨hA.hb, hbr, (Below.refl _ _).drew⟩ ?_
        simp only [List.take_succ_cons, List.take_zero, List.drop_succ_cons, List.drop_zero]
        repeat (refine wpQuiet_val rfl ?_ (fun W hW => ?_) ?_; rotate_left; · go_simp; rfl)
        refine wpQuiet_load_mid rfl 23 _ rfl g 0 rfl (laneL L') _ (fun W hW => hW.h.range hA.len) Tryd.underlying23 rfl (by rw [laneL_length, hA.len]; kernel_rfl) ?_
        repeat (refine wpQuiet_val rfl ?_ (fun W hW => ?_) ?_; rotate_left; · go_simp; rfl)
        refine wpQuiet_val rfl (.slice (some ⟨r', o, none⟩) ys.length c') (fun W hW => ?_) ?_
        · have c25 := hW.h.cell 25
          rw [hcells_25 hA.len] at c25
          go_simp
        refine wpQuiet_val rfl (.slice (some ⟨r', o, none⟩) 136 c') (fun W hW => ?_) ?_
        · have hs := run_cut_low r' o ys.length c' (by omega) W
          go_simp
        have hvr : Vars wr := hv.frm hx (fun k hk => hk.elim (fun e => e ▸ H.out.g3) (fun e => e ▸ H.out.r3))
        have hB : (blockN L' (ys.take 136)).length = 25 := (blockN_len _ _).trans hA.len
        have ht : (ys.take 136).length = 136 := by rw [List.length_take]; omega
        refine wpQuiet_call rfl (.agg (lanes (blockN L' (ys.take 136)))) 24 #[.agg (lanes L'), .slice (some ⟨r', o, none⟩) 136 c'] (fun W => by go_simp; rfl) (fun W hW => ?_) ?_
        · have hw := block_any L' (ys.take 136) hA.len (by omega) (fun i hi => by rw [nth_take _ _ _ (by omega)]; exact hA.oct i (by omega)) r' o c' W
            (hvr.below hW.b (Nat.le_trans hn hx.size)) (Nat.le_trans (Nat.le_trans hn hx.size) hW.b.size)
            ⟨fun i hi => by rw [hW.r.cell, HC.out i (by omega), nth_take _ _ _ (by omega)], hW.r.lt⟩
          rw [ht] at hw
          exact hw.mono fun e w' ⟨he, hb⟩ => ⟨he, hW.h.below hb hW.h.lt, hW.r.below hb hW.r.lt, hW.b.trans (hb.mono hW.b.size)⟩
        refine wpQuiet_nil ?_
        intro W hW
        have hcut := run_cut_high r' o ys.length c' hlt h2
        obtain ⟨o2, ho2⟩ : ∃ x, x = (if c' = 136 then o else o + 136) := ⟨_, rfl⟩
        rw [← ho2] at hcut
        have HO2 := Hd.mk ho2; clear ho2
        obtain ⟨B, hBe⟩ : ∃ B, B = blockN L' (ys.take 136) := ⟨_, rfl⟩
        rw [← hBe] at hB ⊢
        have HB0 := Hd.mk hB; have HT := Hd.mk ht; have HBE := Hd.mk hBe; clear hB ht hBe hvr
        simp only [Act.put, List.setIfInBounds_toArray, List.set_cons_zero, List.set_cons_succ]
        go_wp2_with (refine wpList_store_mid rfl 23 _ _ rfl g 0 (lanes B) rfl rfl (hW.h.there hA.len (by rw [lanes_size, HB0.out]; omega)) (by rw [lanes_size, HB0.out]; kernel_rfl) (lanes_one _) ?_
                     have hst := hW.h.setState hA.len HB0.out
                     have hfr := frm_setCells (W := W) g 0 (lanes B).toList (fun k => k = g) rfl
                     generalize W.setCells g 0 (lanes B).toList = W2 at hst hfr ⊢
                     have hc25 := hst.cell 25
                     rw [hcells_25 HB0.out] at hc25
                     have hf25 := hst.free 25)
        go_roundg (ys.length - 136)
        case measure => omega
        case rel =>
          have hfr3 : Frm (fun k => k = g) W (W2.setCell ⟨g, 25, none⟩ (.slice (some ⟨r', o2, none⟩) (ys.length - 136) (c' - 136))) := hfr.trans (frm_setCell _ _ _ rfl)
          have hl : (ys.drop 136).length = ys.length - 136 := List.length_drop
          have hr2 := hfr3.hb hW.r hne
          have hb4 := hst.set25 HB0.out (some ⟨r', o2, none⟩) (ys.length - 136) (c' - 136)
          refine ⟨B, ys.drop 136, some ⟨r', o2, none⟩, c' - 136, r', hl.symm, ⟨by rw [hl]; exact hb4, HB0.out, .inr ⟨hne, o2, cs, rfl, hr2, ?_, by omega, ?_⟩, oct_drop hA.oct 136, H.out.g3, hA.r3⟩, ⟨?_⟩, hrr, (hx.trans (Frm.of_below hW.b)).trans (hfr3.mono fun k _ hk => .inl hk)⟩
          · have := HO2.out
            by_cases h0 : c' = 136
            · rw [if_pos h0] at this; omega
            · rw [if_neg h0] at this; omega
          · intro i hi
            have := HO2.out
            rw [if_neg (by omega)] at this
            rw [nth_drop, this, show o + 136 + i = o + (136 + i) by omega]
            exact HC.out _ (by omega)
          · rw [HBE.out, ← absA_step L' ys hlt]; exact hE.out
    · have HI : (ys.length : Int) < 136 := by omega
      go_wp2_with fail
      go_ret
      have hd := absA_done L' ys (by omega)
      have hE' := hE.out
      rw [hd] at hE'
      refine ⟨rfl, r', a', c', ?_, ?_, hrr, hx⟩
      · rw [← hE']; exact hA
      · rw [← hE']; show ys.length < 136; omega
end Go.Proofs.YtkinhfaehfldjaaDoor
