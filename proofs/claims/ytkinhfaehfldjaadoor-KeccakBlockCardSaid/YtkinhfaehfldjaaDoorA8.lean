/- The walk of (*Hash).Sum, at a hash and at nil. -/
import Derived.Test.YtkinhfaehfldjaaDoorA7
namespace Go.Proofs.YtkinhfaehfldjaaDoor
open Go.RowKit

theorem HashAt.rlt {W : World} {g r : Nat} {L xs : List Nat} {n : Nat} {a : Option Addr} {c : Nat} (h : HashAt W g r L xs n a c) : r < W.heap.size := by
  rcases h.rest with ⟨_, _, _, rfl⟩ | ⟨_, o, cs, _, hb, _⟩
  · exact h.hb.lt
  · exact hb.lt
theorem info27 (L : List Nat) (h : L.length = 32) : (Tryd.prog.info? 27).map (·.size) = some (octets L).size := by
  rw [octets_size, h]; kernel_rfl
set_option maxRecDepth 100000 in
set_option maxHeartbeats 1000000 in
theorem sumh_nil (w : World) : Calls Tryd.prog 17 #[.pointer none] w fun e w' => e = .returned (.agg (octets (zeros 32))) ∧ Below w.heap.size w w' := by
  have h1 := HB.new w (octets (zeros 32)) 27
  have h2 := new2 w (.cells (octets (zeros 32)) 27) (octets (zeros 32)) 27
  go_enter Tryd.func17, Tryd.ntmps17
  go_wp2_with (first
    | refine wpList_load_row rfl 27 _ rfl (w.heap.size + 1) rfl 27 (octets (zeros 32)) (0,0) _ h2.heap Tryd.underlying27 rfl (info27 _ rfl) ?_
    | refine wpList_store_row rfl 27 _ _ rfl w.heap.size (octets (zeros 32)) rfl rfl 27 (octets (zeros 32)) (h1.alloc _).heap (info27 _ rfl) rfl (octets_one _) ?_)
  exact bodyPost_ret (v := .agg (octets (zeros 32))) (results_cell_row rfl _ _ w.heap.size 27 (octets (zeros 32)) (0, 0) _ rfl ((h1.alloc _).row _).heap Tryd.underlying27 rfl (info27 _ rfl)) rfl ⟨rfl, below_setRow (((Below.refl _ _).alloc (Nat.le_refl _) _).alloc (by simp) _) (by omega) _⟩

/-- memory while Sum is at work: the result's cell, out, the last block -/
structure SMem (w : World) (n : Nat) (o : List Nat) (W : World) : Prop where
  res : HB W n (octets (zeros 32)) 27
  out : HB W (n + 1) (octets o) 27
  b : Below n w W

set_option maxRecDepth 100000 in
set_option maxHeartbeats 1000000 in
theorem sumh_any (w : World) (g r : Nat) (L xs : List Nat) (n : Nat) (a : Option Addr) (c : Nat) (h : HashAt w g r L xs n a c) (hx : xs.length < 136) (hv : Vars w) (hn : 3 ≤ w.heap.size) :
    Calls Tryd.prog 17 #[.pointer (some ⟨g, 0, none⟩)] w fun e w' => e = .returned (.agg (octets (sumN L xs))) ∧ Below w.heap.size w w' := by
  have hm0 : SMem w w.heap.size (zeros 32) ((w.alloc (.cells (octets (zeros 32)) 27)).alloc (.cells (octets (zeros 32)) 27)) :=
    ⟨(HB.new w _ _).alloc _, new2 w _ _ _, ((Below.refl _ _).alloc (Nat.le_refl _) _).alloc (by simp) _⟩
  have hmk := run_make136
  have H := Hd.mk h; clear h
  have HX := Hd.mk hx; clear hx
  go_enter Tryd.func17, Tryd.ntmps17
  go_upto_region 5 with fail
  have hm1 : SMem w w.heap.size (zeros 32) (((w.alloc (.cells (octets (zeros 32)) 27)).alloc (.cells (octets (zeros 32)) 27)).alloc (.cells (octets (zeros 136)) 5)) :=
    ⟨hm0.res.alloc _, hm0.out.alloc _, hm0.b.alloc (by simp; omega) _⟩
  have hB1 : HB (((w.alloc (.cells (octets (zeros 32)) 27)).alloc (.cells (octets (zeros 32)) 27)).alloc (.cells (octets (zeros 136)) 5)) (w.heap.size + 2) (octets (zeros 136)) 5 := by
    have := HB.new ((w.alloc (.cells (octets (zeros 32)) 27)).alloc (.cells (octets (zeros 32)) 27)) (octets (zeros 136)) 5
    simpa using this
  change Code.wp _ _ _ _ (((w.alloc (.cells (octets (zeros 32)) 27)).alloc (.cells (octets (zeros 32)) 27)).alloc (.cells (octets (zeros 136)) 5))
  clear hm0
  generalize ((w.alloc (.cells (octets (zeros 32)) 27)).alloc (.cells (octets (zeros 32)) 27)).alloc (.cells (octets (zeros 136)) 5) = w1 at *
  have hgl := H.out.hb.lt
  have hrl := H.out.rlt
  have hA1 : HashAt w1 g r L xs n a c := H.out.frm (Frm.of_below (S := fun _ => False) hm1.b) id id
  have hv1 : Vars w1 := hv.below hm1.b hn
  have hc25 := hA1.hb.cell 25
  rw [hcells_25 hA1.len] at hc25
  have HI : (xs.length : Int) < 136 := by have := HX.out; omega
  go_upto_region 7 with (refine wpList_copy_rest rfl _ _ rfl a c r g xs (w.heap.size + 2) hB1 rfl hA1.rest HX.out rfl ?_; have hB2 := hB1.copied HX.out; have hfr := frm_setCells (W := w1) (w.heap.size + 2) 0 (octets xs).toList (fun k => k = w.heap.size + 2) rfl; generalize w1.setCells (w.heap.size + 2) 0 (octets xs).toList = w2 at hB2 hfr ⊢; have hcx := hB2.octet xs.length (by have := HX.out; simp; omega); have hfx := hB2.free xs.length; have hA2 : HashAt w2 g r L xs n a c := hA1.frm hfr (by omega) (by omega); clear hc25; have hc25 := hA2.hb.cell 25; rw [hcells_25 hA2.len] at hc25)
  have hB3 := hB2.setOctet xs.length 1
  have hfr3 := hfr.trans (frm_setCell (W := w2) ⟨w.heap.size + 2, xs.length, none⟩ (.int .u8 ((1 : Nat) : Int)) (fun k => k = w.heap.size + 2) rfl)
  change Code.wp _ _ _ _ (w2.setCell ⟨w.heap.size + 2, xs.length, none⟩ (.int .u8 ((1 : Nat) : Int)))
  clear hcx hfx hc25 hA2 hB2 hfr hB1
  generalize w2.setCell ⟨w.heap.size + 2, xs.length, none⟩ (.int .u8 ((1 : Nat) : Int)) = w3 at *
  change HB w3 (w.heap.size + 2) (octets (pad0 xs)) 5 at hB3
  have hp0 : Hd ((pad0 xs).length = 136) := ⟨pad0_len xs HX.out⟩
  have hc135 := hB3.octet 135 (by have := hp0.out; omega)
  have hf135 := hB3.free 135
  have ho : bits .or .u8 ((nth (pad0 xs) 135 : Nat) : Int) 128 = ((or8 (nth (pad0 xs) 135) 128 : Nat) : Int) := bits_or8 _ 128
  go_upto_region 8 with fail
  have hB4 := hB3.setOctet 135 (or8 (nth (pad0 xs) 135) 128)
  have hfr4 := hfr3.trans (frm_setCell (W := w3) ⟨w.heap.size + 2, 135, none⟩ (.int .u8 ((or8 (nth (pad0 xs) 135) 128 : Nat) : Int)) (fun k => k = w.heap.size + 2) rfl)
  change Code.wp _ _ _ _ (w3.setCell ⟨w.heap.size + 2, 135, none⟩ (.int .u8 ((or8 (nth (pad0 xs) 135) 128 : Nat) : Int)))
  clear hc135 hf135 hB3 hfr3 ho
  generalize w3.setCell ⟨w.heap.size + 2, 135, none⟩ (.int .u8 ((or8 (nth (pad0 xs) 135) 128 : Nat) : Int)) = w4 at *
  change HB w4 (w.heap.size + 2) (octets (padN xs)) 5 at hB4
  have hA4 : HashAt w4 g r L xs n a c := hA1.frm hfr4 (by omega) (by omega)
  have hm4 : SMem w w.heap.size (zeros 32) w4 := ⟨hfr4.hb hm1.res (by omega), hfr4.hb hm1.out (by omega), hfr4.below hm1.b (Nat.le_refl _) (by omega)⟩
  have hv4 : Vars w4 := hv.below hm4.b hn
  clear hfr4 hA1 hm1 hv1 hv w1 w2 w3 hmk
  have hpl : (padN xs).length = 136 := padN_len xs HX.out
  have hbk := block_any L (padN xs) hA4.len (by omega) (padN_oct xs HX.out hA4.oct) (w.heap.size + 2) 0 136 w4 hv4 (Nat.le_trans hn hm4.b.size)
    ⟨fun i hi => by rw [Nat.zero_add]; exact hB4.octet i hi, hB4.lt⟩
  rw [hpl] at hbk
  have HBK := Hd.mk hbk
  obtain ⟨B, hB⟩ : ∃ B, B = blockN L (padN xs) := ⟨_, rfl⟩
  rw [← hB] at HBK
  have HBL : Hd (B.length = 25) := ⟨by rw [hB, blockN_len]; exact hA4.len⟩
  have HBE := Hd.mk hB
  clear hbk hpl hB hp0
  go_upto_region 9 with (first
    | refine wpList_load_mid rfl 23 _ rfl g 0 rfl (laneL L) _ (hA4.hb.range hA4.len) Tryd.underlying23 rfl (by rw [laneL_length, hA4.len]; kernel_rfl) ?_
    | (go_at_call 24; refine HBK.out.mono ?_; rintro e w5 ⟨rfl, hb5⟩)
    | refine wpList_store_row rfl 23 _ _ rfl w5.heap.size (lanes B) rfl rfl 23 (lanes (zeros 25)) (HB.new w5 (lanes (zeros 25)) 23).heap (by rw [lanes_size, HBL.out]; kernel_rfl) (by rw [lanes_size, lanes_size, HBL.out]; rfl) (lanes_one _) ?_)
  have hm5 : SMem w w.heap.size (zeros 32) w5 := ⟨hm4.res.below hb5 hm4.res.lt, hm4.out.below hb5 hm4.out.lt, hm4.b.trans (hb5.mono hm4.b.size)⟩
  have hz : w.heap.size + 1 < w5.heap.size := hm5.out.lt
  have hm6 : SMem w w.heap.size (zeros 32) ((w5.alloc (.cells (lanes (zeros 25)) 23)).setRow w5.heap.size (lanes B)) :=
    ⟨(hm5.res.alloc _).rowOther _ _ (by omega), (hm5.out.alloc _).rowOther _ _ (by omega), below_setRow (hm5.b.alloc (by omega) _) (by omega) _⟩
  have hl6 : HB ((w5.alloc (.cells (lanes (zeros 25)) 23)).setRow w5.heap.size (lanes B)) w5.heap.size (lanes B) 23 := (HB.new w5 (lanes (zeros 25)) 23).row _
  change Code.wp _ _ _ _ ((w5.alloc (.cells (lanes (zeros 25)) 23)).setRow w5.heap.size (lanes B))
  clear hm4 hA4 hB4 hv4 hb5 hm5 HBK
  generalize (w5.alloc (.cells (lanes (zeros 25)) 23)).setRow w5.heap.size (lanes B) = w6 at *
  generalize w5.heap.size = m at *
  go_wp2_with fail
  go_loopw [35] (fun i W => ∃ k : Nat, k ≤ 32 ∧ i = .int .i64 k ∧ SMem w w.heap.size (outK B k) W ∧ HB W m (lanes B) 23) (fun i _ => 32 - (intOf i).toNat)
  case atStart => exact ⟨0, by omega, rfl, hm6, hl6⟩
  case round =>
    clear hm6 hl6 w6 w4
    obtain ⟨k, hk, rfl, hm, hl⟩ := hrel
    by_cases hlt : k < 32
    · obtain ⟨q, hq⟩ : ∃ x, x = k / 8 := ⟨_, rfl⟩
      obtain ⟨s, hs⟩ : ∃ x, x = 8 * (k % 8) := ⟨_, rfl⟩
      have hc := hl.lane (k / 8) (by rw [HBL.out]; omega)
      have hf := hm.out.free k
      have hoc := hm.out.octet k (by rw [outK_len]; omega)
      have ik : (k : Int) < 32 := by omega
      have he : ((nth B (k / 8) : Nat) : Int) / 2 ^ (8 * (k % 8)) % 256 = (((nth B (k / 8) >>> (8 * (k % 8))) % 256 : Nat) : Int) := by
        rw [div_shr]; omega
      have HE := Hd.mk he; clear he
      go_upto_region 13 with fail
      rw [HE.out]
      have ho := hm.out.setOctet k ((nth B (k / 8) >>> (8 * (k % 8))) % 256)
      have hm' : SMem w w.heap.size (outK B (k + 1)) (wr.setCell ⟨w.heap.size + 1, k, none⟩ (.int .u8 (((nth B (k / 8) >>> (8 * (k % 8))) % 256 : Nat) : Int))) :=
        ⟨hm.res.other _ _ (by simp), ho, hm.b.setCell (by simp) _⟩
      have hl' := hl.other ⟨w.heap.size + 1, k, none⟩ (.int .u8 (((nth B (k / 8) >>> (8 * (k % 8))) % 256 : Nat) : Int)) (by simp; omega)
      generalize wr.setCell ⟨w.heap.size + 1, k, none⟩ (.int .u8 (((nth B (k / 8) >>> (8 * (k % 8))) % 256 : Nat) : Int)) = w2 at hm' hl' ⊢
      clear hm hl hc hf hoc
      go_wp2
      exact ⟨⟨k + 1, by omega, by go_num, hm', hl'⟩, by simp [intOf]; omega⟩
    · obtain rfl : k = 32 := by omega
      have hS : (Tryd.prog.info? 27).map (·.size) = some (octets (outK B 32)).size := info27 _ (outK_len _ _)
      have hR : outK B 32 = sumN L xs := by rw [HBE.out]; rfl
      rw [hR] at hm hS
      have hlz : (octets (zeros 32)).size = (octets (sumN L xs)).size := by rw [← hR, octets_size, octets_size, outK_len]; rfl
      clear hR
      obtain ⟨R, hRe⟩ : ∃ R, R = sumN L xs := ⟨_, rfl⟩
      rw [← hRe] at hm hS hlz
      have HRE := Hd.mk hRe; clear hRe
      go_wp2_with (first
        | refine wpList_load_row rfl 27 _ rfl (w.heap.size + 1) rfl 27 (octets R) (0,0) _ hm.out.heap Tryd.underlying27 rfl hS ?_
        | refine wpList_store_row rfl 27 _ _ rfl w.heap.size (octets R) rfl rfl 27 (octets (zeros 32)) hm.res.heap hS hlz (octets_one _) ?_)
      exact bodyPost_ret (v := .agg (octets R)) (results_cell_row rfl _ _ w.heap.size 27 (octets R) (0, 0) _ rfl (hm.res.row _).heap Tryd.underlying27 rfl hS) rfl ⟨by rw [HRE.out], below_setRow hm.b (by omega) _⟩
end Go.Proofs.YtkinhfaehfldjaaDoor
