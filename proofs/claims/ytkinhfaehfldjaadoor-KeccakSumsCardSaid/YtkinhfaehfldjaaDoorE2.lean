/- The reference's Sum, walked: it is the hash of the string's bytes. -/
import Derived.Test.YtkinhfaehfldjaaDoorE1
import Derived.Test.YtkinhfaehfldjaaDoorR4
namespace Go.Proofs.YtkinhfaehfldjaaDoor
open Go.ChangeShapes Go.WideShapes Go.ChangeAt Go.RowKit

def lenV : Value → Nat
  | .slice _ n _ => n
  | _ => 0
def ocL (l : List Nat) : List Value := (octets l).toList
theorem ocL_append (a b : List Nat) : ocL (a ++ b) = ocL a ++ ocL b := by simp [ocL, octets]
theorem ocL_len (a : List Nat) : (ocL a).length = a.length := by simp [ocL, octets]
theorem ocL_get (a : List Nat) (i : Nat) (h : i < a.length) : (ocL a)[i]? = some (.int .u8 ((nth a i : Nat) : Int)) := by
  have := octets_get a i h
  simpa [ocL] using this

/-- memory while the reference's Sum pads: the result's cell, the bytes -/
structure Pad (w : World) (n : Nat) (a : Option Addr) (c r : Nat) (xs : List Nat) (W : World) : Prop where
  res : HB W n (octets (zeros 32)) 27
  rest : RestV W a c r n 5 (ocL xs)
  ge : n ≤ r
  b : Below n w W
theorem Pad.lt {w : World} {n : Nat} {a : Option Addr} {c r : Nat} {xs : List Nat} {W : World} (h : Pad w n a c r xs W) : n < W.heap.size := h.res.lt
theorem Pad.next {w : World} {n : Nat} {a : Option Addr} {c r : Nat} {xs : List Nat} {W : World} (h : Pad w n a c r xs W) (hn : n = w.heap.size) {a' : Option Addr} {c' r' : Nat} {W' : World} {ys : List Nat} {news : List Value} (hy : news = ocL ys)
    (hR : RestV W' a' c' r' n 5 (ocL xs ++ news)) (hr : r' = r ∨ W.heap.size ≤ r') (hF : Frm (fun k => k = r ∧ r ≠ n) W W') : Pad w n a' c' r' (xs ++ ys) W' := by
  have hl := h.lt
  have hg := h.ge
  subst hy
  exact ⟨hF.hb h.res (by omega), by rw [ocL_append]; exact hR, by omega, hF.below h.b (by omega) (by omega)⟩
theorem Pad.alloc {w : World} {n : Nat} {a : Option Addr} {c r : Nat} {xs : List Nat} {W : World} (h : Pad w n a c r xs W) (o : Obj) : Pad w n a c r xs (W.alloc o) := by
  have hl := h.lt
  exact ⟨h.res.alloc o, h.rest.frm (S := fun _ => False) (Frm.of_below ((Below.refl _ _).alloc (Nat.le_refl _) _)) (fun _ => id), h.ge, h.b.alloc (by omega) o⟩

theorem absN_zero (A bs : List Nat) : absN A bs 0 = A := by simp only [absN, iter]
theorem refK_zero (m : List Nat) : refK m 0 = zeros 25 := by simp only [refK, iter]
/-- memory while it absorbs: the result's cell, the padded bytes, the state -/
structure AbsM (w : World) (n r o : Nat) (m : List Nat) (g : Nat) (A : List Nat) (W : World) : Prop where
  res : HB W n (octets (zeros 32)) 27
  oct : Octs W r o m
  st : HB W g (lanes A) 23
  b : Below n w W
/-- memory while the hash is written out: the result's cell, the state, what goes out -/
structure OutM (w : World) (n g : Nat) (A : List Nat) (h : Nat) (l : List Nat) (W : World) : Prop where
  res : HB W n (octets (zeros 32)) 27
  st : HB W g (lanes A) 23
  out : HB W h (octets l) 27
  b : Below n w W
theorem pad_octs {W : World} {r o : Nat} {cs : Array Value} {bs : List Nat} (hb : HB W r cs 5) (hc : o + (refPad bs).length ≤ cs.size) (h3 : ∀ i, i < (ocL (ref0 bs (padZ bs.length))).length → cs[o + i]? = (ocL (ref0 bs (padZ bs.length)))[i]?) :
    Octs (W.setCell ⟨r, o + (bs.length + padZ bs.length), none⟩ (.int .u8 ((or8 (nth (ref0 bs (padZ bs.length)) (bs.length + padZ bs.length)) 128 : Nat) : Int))) r o (refPad bs) := by
  have hb2 := hb.set (o + (bs.length + padZ bs.length)) (.int .u8 ((or8 (nth (ref0 bs (padZ bs.length)) (bs.length + padZ bs.length)) 128 : Nat) : Int))
  refine ⟨fun i hi => ?_, hb2.lt⟩
  rw [hb2.cell]
  unfold refPad
  rw [nth_set]
  have hl := refPad_len bs
  have hl0 := ref0_len bs (padZ bs.length)
  by_cases h : bs.length + padZ bs.length = i
  · subst h
    rw [if_pos ⟨rfl, by omega⟩, Array.getElem?_setIfInBounds_self_of_lt (by omega)]
  · rw [if_neg (fun x => h x.1), Array.getElem?_setIfInBounds_ne (by omega), h3 i (by rw [ocL_len]; omega)]
    exact ocL_get _ i (by omega)

theorem Octs.drew {W : World} {g o : Nat} {bs : List Nat} (h : Octs W g o bs) : Octs W.drew g o bs := ⟨h.cell, h.lt⟩
theorem Octs.upon {W : World} {g o : Nat} {bs : List Nat} (h : Octs W g o bs) {p : Addr} {v : Value} (hne : g ≠ p.block) : Octs (W.drew.setCell p v) g o bs :=
  ⟨fun i hi => (show (W.drew.setCell p v).cell? ⟨g, o + i, none⟩ = W.drew.cell? ⟨g, o + i, none⟩ from World.cell?_of_block (heap_setCell_other W.drew p g v hne)).trans (h.cell i hi), by have := h.lt; simpa using this⟩
theorem Octs.rowOther {W : World} {g o : Nat} {bs : List Nat} (h : Octs W g o bs) {k : Nat} {cs : Array Value} (hne : g ≠ k) : Octs (W.setRow k cs) g o bs := by
  have hk := setRow_other W k g cs hne
  refine ⟨fun i hi => ?_, ?_⟩
  · rw [← h.cell i hi]
    exact World.cell?_of_block hk
  · have := h.lt; simpa using this
set_option maxRecDepth 100000 in
set_option maxHeartbeats 1000000 in
theorem refsum_any (s : ByteArray) (hsz : s.size ≤ 3000) (w : World) : Calls Tryd.prog 14 #[.string s] w fun e w' => e = .returned (.agg (octets (hashN (bytesOf s)))) ∧ Below w.heap.size w w' := by
  have hp0 : Pad w w.heap.size none 0 w.heap.size [] (w.alloc (.cells (octets (zeros 32)) 27)) := ⟨HB.new w _ _, RestV.nil _ _ _, Nat.le_refl _, (Below.refl _ _).alloc (Nat.le_refl _) _⟩
  have hbl : (bytesOf s).length = s.size := bytesOf_length s
  obtain ⟨i5, hi5, hz5, hs5, hy5⟩ := info5
  have HI5 := Hd.mk hi5; have HZ5 := Hd.mk hz5; have HS5 := Hd.mk hs5; have HY5 : Hd (i5.bytes ≤ 16) := ⟨by rw [hy5]; decide⟩
  have HBL := Hd.mk hbl
  obtain ⟨bs, hbs⟩ : ∃ bs, bs = bytesOf s := ⟨_, rfl⟩
  have HBS := Hd.mk hbs
  clear hi5 hz5 hs5 hy5 hbl hbs
  have h1c : ∀ (W : World), Src Tryd.prog 1 37 (.slice (some ⟨W.heap.size, 0, none⟩) 1 1) 1 [.int .u8 1] (W.alloc (.cells #[.int .u8 1] 5)) := fun W => src_one Tryd.underlying37 (HB.new W _ _) rfl
  have h0c : ∀ (W : World), Src Tryd.prog 1 37 (.slice (some ⟨W.heap.size, 0, none⟩) 1 1) 1 [.int .u8 0] (W.alloc (.cells #[.int .u8 0] 5)) := fun W => src_one Tryd.underlying37 (HB.new W _ _) rfl
  have H1C := Hd.mk h1c; have H0C := Hd.mk h0c; clear h1c h0c
  go_enter Tryd.func14, Tryd.ntmps14
  go_upto_region 3 with (at_builtin; refine wpList_append_restV rfl _ _ 37 9 5 rfl none 0 w.heap.size w.heap.size [] (byteCells s) 0 rfl rfl hp0.rest hp0.lt Tryd.underlying37 HI5.out HZ5.out rfl HS5.out HY5.out (.string s) s.size rfl (Src.ofString _ Tryd.underlying9 s) (by simp; omega) ?_; intro a1 c1 w1 r1 hR1 hr1 hF1; have hp1 := hp0.next rfl (octets_bytes s) hR1 hr1 hF1; clear hR1 hr1 hF1)
  rw [List.nil_append, ← HBS.out] at hp1
  have HBL1 : Hd (s.size = (ocL bs).length) := ⟨by rw [ocL_len, HBS.out, HBL.out]⟩
  clear hp0
  go_wp2_with (at_builtin; refine wpList_append_restV rfl _ _ 37 37 5 rfl a1 c1 r1 w.heap.size (ocL bs) [.int .u8 1] s.size HBL1.out rfl (hp1.alloc _).rest (hp1.alloc _).lt Tryd.underlying37 HI5.out HZ5.out rfl HS5.out HY5.out _ 1 rfl (H1C.out _) (by have := HBL1.out; omega) ?_; intro a2 c2 w2 r2 hR2 hr2 hF2; have hp2 := (hp1.alloc _).next rfl (ys := [1]) rfl hR2 hr2 hF2; clear hR2 hr2 hF2)
  have hp3 : Pad w w.heap.size a2 c2 r2 (ref0 bs 0) w2 := hp2
  clear hp1 hp2
  go_loopw [3] (fun v W => ∃ (k : Nat) (a : Option Addr) (c r : Nat), k ≤ padZ s.size ∧ v = .slice a (s.size + 1 + k) c ∧ Pad w w.heap.size a c r (ref0 bs k) W) (fun v _ => s.size + 1 + padZ s.size - lenV v)
  case atStart => exact ⟨0, a2, c2, r2, by omega, rfl, hp3⟩
  case round =>
    clear hp3
    obtain ⟨k, a, c, r, hk, rfl, hp⟩ := hrel
    obtain ⟨m, hm⟩ : ∃ m, m = s.size + 1 + k := ⟨_, rfl⟩
    rw [← hm]
    obtain ⟨t, ht⟩ : ∃ t, t = m % 136 := ⟨_, rfl⟩
    have e1 : (m : Int) % 136 = (t : Int) := by omega
    have e2 : (m : Int).tmod 136 = (t : Int) := by rw [Int.tmod_eq_emod_of_nonneg (by omega)]; exact e1
    have HM := Hd.mk hm; have HT := Hd.mk ht
    clear hm ht
    by_cases hz : t = 0
    · obtain rfl : k = padZ s.size := by
        have h1 := HM.out; have h2 := HT.out; unfold padZ at hk ⊢; omega
      subst hz
      rcases hp.rest with ⟨_, _, hx, _⟩ | ⟨hne, o, cs, rfl, hb, h1, h2, h3⟩
      · exact absurd (congrArg List.length hx) (by rw [ocL_len, ref0_len]; simp)
      · have hzb : s.size = bs.length := by rw [HBS.out, HBL.out]
        have HZB := Hd.mk hzb
        obtain ⟨l, hl⟩ : ∃ l, l = bs.length + padZ bs.length := ⟨_, rfl⟩
        have hml : m = l + 1 := by have := HM.out; rw [hzb] at this; omega
        rw [hzb] at h2 h3 hp
        have hc := hb.cell (o + l)
        have hlen : l < (ocL (ref0 bs (padZ bs.length))).length := by rw [ocL_len, ref0_len]; omega
        rw [h3 l hlen, ocL_get _ _ (by rw [ocL_len] at hlen; exact hlen)] at hc
        have hf := hb.free (o + l)
        have ho : bits .or .u8 ((nth (ref0 bs (padZ bs.length)) l : Nat) : Int) 128 = ((or8 (nth (ref0 bs (padZ bs.length)) l) 128 : Nat) : Int) := bits_or8 _ 128
        have e3 : IntKind.i64.wrap ((m : Int) - 1) = (l : Int) := by rw [IntWalk.i64_in _ (by unfold padZ at hl; omega)]; omega
        have e4 : (m : Int) - 1 = (l : Int) := by omega
        have b0 : (l : Int) < (m : Int) := by omega
        have e5 : wrap64 (l : Int) = (l : Int) := IntWalk.wrap64_in _ (by unfold padZ at hl; omega)
        have H3 := Hd.mk h3; have HL := Hd.mk hl; have HML := Hd.mk hml
        have hP := pad_octs hb (by rw [refPad_len]; rw [ocL_len, ref0_len] at h2; omega) h3
        rw [← hl] at hP
        clear h3 hl hml hzb hlen
        obtain ⟨v, hv⟩ : ∃ v, v = nth (ref0 bs (padZ bs.length)) l := ⟨_, rfl⟩
        rw [← hv] at hc ho hP
        clear hv hk
        go_upto_region 7 with fail
        have hres := hp.res.other ⟨r, o + l, none⟩ (.int .u8 ((or8 v 128 : Nat) : Int)) (fun x => hne x.symm)
        have hbel : Below w.heap.size w (wr.setCell ⟨r, o + l, none⟩ (.int .u8 ((or8 v 128 : Nat) : Int))) := hp.b.setCell hp.ge _
        change Code.wp _ _ _ _ (wr.setCell ⟨r, o + l, none⟩ (.int .u8 ((or8 v 128 : Nat) : Int)))
        have hrge := hp.ge
        clear hc hf ho e1 e2 e3 e4 e5 b0 hb h1 h2 hp
        generalize wr.setCell ⟨r, o + l, none⟩ (.int .u8 ((or8 v 128 : Nat) : Int)) = w3 at *
        obtain ⟨M, hM⟩ : ∃ M, M = refPad bs := ⟨_, rfl⟩
        rw [← hM] at hP
        have HMl : Hd (M.length = m) := ⟨by rw [hM, refPad_len]; have h1 := HL.out; have h2 := HML.out; omega⟩
        have HMo : Hd (∀ i, nth M i < 256) := ⟨by rw [hM]; exact refPad_oct bs (by rw [HBS.out]; exact bytesOf_lt s)⟩
        have HMe := Hd.mk hM; clear hM
        obtain ⟨q, hq⟩ : ∃ q, q = m / 136 := ⟨_, rfl⟩
        have hmq : m = 136 * q := by have h1 := HMl.out; have h2 := refPad_mod bs; rw [← HMe.out] at h2; omega
        have HMQ := Hd.mk hmq
        have hms : m ≤ 4000 := by have := HM.out; unfold padZ at this; omega
        clear hq hmq
        have hA0 : AbsM w w.heap.size r o M w3.heap.size (zeros 25) (w3.alloc (.cells (lanes (zeros 25)) 23)) :=
          ⟨hres.alloc _, ⟨fun i hi => ((Below.refl w3.heap.size w3).alloc (Nat.le_refl _) _).cell (p := ⟨r, o + i, none⟩) hP.lt |>.trans (hP.cell i hi), by have := hP.lt; simp; omega⟩, HB.new w3 _ _, hbel.alloc (Nat.le_of_lt hres.lt) _⟩
        have hgr : r < w3.heap.size := hP.lt
        have hgn : w.heap.size < w3.heap.size := hres.lt
        go_wp2_with fail
        change Code.wp _ _ _ _ (w3.alloc (.cells (lanes (zeros 25)) 23))
        clear hP hres hbel
        generalize w3.alloc (.cells (lanes (zeros 25)) 23) = w4 at *
        generalize w3.heap.size = g at *
        go_loopw [5] (fun i W => ∃ b : Nat, b ≤ q ∧ i = .int .i64 ((136 * b : Nat) : Int) ∧ AbsM w w.heap.size r o M g (refK M b) W) (fun i _ => q - (intOf i).toNat / 136)
        case atStart => exact ⟨0, by omega, rfl, by rw [refK_zero]; exact hA0⟩
        case round =>
          clear hA0 w4 w3
          obtain ⟨b, hb, rfl, hA⟩ := hrel
          obtain ⟨ii, hii⟩ : ∃ ii, ii = 136 * b := ⟨_, rfl⟩
          rw [← hii]
          have hx := bits_xr
          by_cases hlt : b < q
          · have hiim : ii + 136 ≤ m := by have := HMQ.out; omega
            have hi1 : (ii : Int) < (m : Int) := by omega
            have HII := Hd.mk hii; clear hii
            go_wp2_with fail
            go_loopw [6] (fun j W => ∃ k : Nat, k ≤ 136 ∧ j = .int .i64 (k : Int) ∧ AbsM w w.heap.size r o M g (absN (refK M b) (refBlk M b) k) W) (fun j _ => 136 - (intOf j).toNat)
            case atStart => exact ⟨0, by omega, rfl, by rw [absN_zero]; exact hA⟩
            case round =>
              clear hA
              obtain ⟨k, hk, rfl, hA⟩ := hrel
              by_cases hkl : k < 136
              · obtain ⟨p, hp⟩ : ∃ p, p = ii + k := ⟨_, rfl⟩
                have hoc := hA.oct.cell p (by rw [HMl.out]; omega)
                have hb256 := HMo.out p
                obtain ⟨y, hy⟩ : ∃ y, y = nth M p := ⟨_, rfl⟩
                rw [← hy] at hoc hb256
                obtain ⟨d, hd⟩ : ∃ x, x = k / 8 := ⟨_, rfl⟩
                obtain ⟨f, hf⟩ : ∃ x, x = k % 8 := ⟨_, rfl⟩
                obtain ⟨sh, hs⟩ : ∃ x, x = 8 * f := ⟨_, rfl⟩
                have e1 : IntKind.i64.wrap ((k : Int).tdiv 8) = (d : Int) := by rw [IntWalk.i64_quo _ _ (by omega)]; omega
                have e1' : IntKind.i64.wrap ((k : Int) / 8) = (d : Int) := by rw [IntWalk.i64_in _ (by omega)]; omega
                have e2' : (k : Int) % 8 = (f : Int) := by omega
                have e2 : (k : Int).tmod 8 = (f : Int) := by rw [Int.tmod_eq_emod_of_nonneg (by omega)]; omega
                have e3 : IntKind.i64.wrap (8 * (f : Int)) = (sh : Int) := by rw [IntWalk.i64_in _ (by omega)]; omega
                have e4 : IntKind.u64.wrap (y : Int) = (y : Int) := IntWalk.u64_in _ (by omega)
                have e5 := run_shl (P := Tryd.prog) y sh (by omega) .i64
                have e5' := run_shl (P := Tryd.prog) y sh (by omega) .u64
                have e6 := wrap_shl_min y sh (by omega)
                have e7 : IntKind.i64.wrap ((ii : Int) + (k : Int)) = (p : Int) := by rw [IntWalk.i64_in _ (by omega)]; omega
                have e8 : IntKind.u64.wrap (sh : Int) = (sh : Int) := IntWalk.u64_in _ (by omega)
                have im : (d : Int) < 25 := by omega
                have ip : (p : Int) < (m : Int) := by omega
                have hc := hA.st.lane d (by rw [absN_len, (refK_state M b).len]; omega)
                have hfz := hA.st.free d
                have HE : Hd (absN (refK M b) (refBlk M b) (k + 1) = (absN (refK M b) (refBlk M b) k).set d (xr (nth (absN (refK M b) (refBlk M b) k) d) (shlw y sh))) := ⟨by
                  rw [hs, hf, hd, hy, hp, HII.out, ← nth_refBlk M b k hkl]; rfl⟩
                have HP0 := Hd.mk hp; have HY0 := Hd.mk hy
                clear hs hf hd hy hp
                go_upto_region 14 with fail
                refine wp_region_still_tail 20 (by kernel_rfl) (by kernel_rfl) ?_
                simp only [List.take_succ_cons, List.take_zero, List.drop_succ_cons, List.drop_zero]
                repeat still_step
                refine wpStill_nil ?_
                change wpList _ _ _ _ _ wr.drew
                clear e1 e2 e1' e2' e3 e4 e5 e5' e6 e7 e8
                go_wp2
                have hA' := hA.st.drew.setLane d (xr (nth (absN (refK M b) (refBlk M b) k) d) (shlw y sh))
                rw [← HE.out] at hA'
                exact ⟨⟨k + 1, by omega, by go_num, ⟨hA.res.drew.other _ _ (by simp; omega), hA.oct.upon (by simp; omega), hA', hA.b.drew.setCell (by simp; omega) _⟩⟩, by simp [intOf]; omega⟩
              · obtain rfl : k = 136 := by omega
                have hblk := refBlk_len M b (by rw [HMl.out, ← HII.out]; exact hiim)
                have hst := absN_state (refK_state M b) (refBlk M b) 136
                have hpe : permRK (absN (refK M b) (refBlk M b) 136) 24 = refK M (b + 1) := by
                  rw [perm_eq _ hst 24, refK_succ]; unfold blockN permN; rw [hblk]
                have hp := permr_any (absN (refK M b) (refBlk M b) 136) hst.len wr
                rw [hpe] at hp
                have HP := Hd.mk hp
                have hl0 := hst.len
                have hl1 := (refK_state M (b + 1)).len
                have hS0 : (Tryd.prog.info? 23).map (·.size) = some (lanes (absN (refK M b) (refBlk M b) 136)).size := by rw [lanes_size, hl0]; kernel_rfl
                have hS1 : (Tryd.prog.info? 23).map (·.size) = some (lanes (refK M (b + 1))).size := by rw [lanes_size, hl1]; kernel_rfl
                have hlz : (lanes (absN (refK M b) (refBlk M b) 136)).size = (lanes (refK M (b + 1))).size := by rw [lanes_size, lanes_size, hl0, hl1]
                clear hp hpe hst hblk
                generalize absN (refK M b) (refBlk M b) 136 = Y at *
                obtain ⟨Z, hZ⟩ : ∃ Z, Z = refK M (b + 1) := ⟨_, rfl⟩
                rw [← hZ] at HP hS1 hlz hl1
                have HZ := Hd.mk hZ; clear hZ
                have e1 : (ii : Int) + 136 = ((136 * (b + 1) : Nat) : Int) := by have := HII.out; omega
                have HE1 := Hd.mk e1; clear e1
                go_wp2_with (first
                  | refine wpList_load_row rfl 23 _ rfl g rfl 23 (lanes Y) (0,0) _ hA.st.heap Tryd.underlying23 rfl hS0 ?_
                  | (go_at_call 12; refine HP.out.mono ?_; rintro e w5 ⟨rfl, hb5⟩)
                  | refine wpList_store_row rfl 23 _ _ rfl g (lanes Z) rfl rfl 23 (lanes Y) (hA.st.below hb5 hA.st.lt).heap hS1 hlz (lanes_one _) ?_)
                rw [HE1.out]
                have hlr := hA.oct.lt
                exact ⟨⟨b + 1, by omega, rfl, by rw [← HZ.out]; exact ⟨(hA.res.below hb5 hA.res.lt).rowOther _ _ (by omega), (hA.oct.below hb5 hlr).rowOther (by omega), (hA.st.below hb5 hA.st.lt).row _, below_setRow (hA.b.trans (hb5.mono hA.b.size)) (by omega) _⟩⟩, by simp [intOf]; have := HII.out; omega⟩
          · obtain rfl : b = q := by omega
            have hbm : ii = m := by have := HMQ.out; omega
            subst hbm
            have hAs := refK_state M b
            have hfin : outN (refK M b) = hashN bs := by rw [HMe.out]; exact ref_sum bs b (by rw [← HMe.out, HMl.out]; exact HMQ.out)
            have HAs := Hd.mk hAs; have HF := Hd.mk hfin
            have hbl2 : (refK M b).length = 25 := hAs.len
            clear hAs hfin hlt hb
            have HMQ' := HMQ; clear HMQ hii
            generalize refK M b = B at *
            have HBL := Hd.mk hbl2; clear hbl2
            have hgl := hA.st.lt
            have hnl := hA.res.lt
            have hm6 : OutM w w.heap.size g B wr.heap.size (zeros 32) (wr.alloc (.cells (octets (zeros 32)) 27)) := ⟨hA.res.alloc _, hA.st.alloc _, HB.new wr _ _, hA.b.alloc (by omega) _⟩
            go_wp2_with fail
            change Code.wp _ _ _ _ (wr.alloc (.cells (octets (zeros 32)) 27))
            clear hA
            generalize wr.alloc (.cells (octets (zeros 32)) 27) = w6 at *
            generalize wr.heap.size = h at *
            go_loopw [8] (fun i W => ∃ k : Nat, k ≤ 32 ∧ i = .int .i64 k ∧ OutM w w.heap.size g B h (outK B k) W) (fun i _ => 32 - (intOf i).toNat)
            case atStart => exact ⟨0, by omega, rfl, hm6⟩
            case round =>
              clear hm6 w6
              obtain ⟨k, hk, rfl, hm⟩ := hrel
              by_cases hlt : k < 32
              · obtain ⟨q, hq⟩ : ∃ x, x = k / 8 := ⟨_, rfl⟩
                obtain ⟨sh, hs⟩ : ∃ x, x = 8 * (k % 8) := ⟨_, rfl⟩
                have hc := hm.st.lane (k / 8) (by rw [HBL.out]; omega)
                have hf := hm.out.free k
                have hoc := hm.out.octet k (by rw [outK_len]; omega)
                have ik : (k : Int) < 32 := by omega
                have he : ((nth B (k / 8) : Nat) : Int) / 2 ^ (8 * (k % 8)) % 256 = (((nth B (k / 8) >>> (8 * (k % 8))) % 256 : Nat) : Int) := by
                  rw [div_shr]; omega
                have HE := Hd.mk he; clear he
                go_upto_region 19 with fail
                rw [HE.out]
                have ho := hm.out.setOctet k ((nth B (k / 8) >>> (8 * (k % 8))) % 256)
                have hm' : OutM w w.heap.size g B h (outK B (k + 1)) (wr.setCell ⟨h, k, none⟩ (.int .u8 (((nth B (k / 8) >>> (8 * (k % 8))) % 256 : Nat) : Int))) :=
                  ⟨hm.res.other _ _ (by simp; omega), hm.st.other _ _ (by simp; omega), ho, hm.b.setCell (by simp; omega) _⟩
                generalize wr.setCell ⟨h, k, none⟩ (.int .u8 (((nth B (k / 8) >>> (8 * (k % 8))) % 256 : Nat) : Int)) = w2 at hm' ⊢
                clear hm hc hf hoc
                go_wp2
                exact ⟨⟨k + 1, by omega, by go_num, hm'⟩, by simp [intOf]; omega⟩
              · obtain rfl : k = 32 := by omega
                have hS : (Tryd.prog.info? 27).map (·.size) = some (octets (outK B 32)).size := info27 _ (outK_len _ _)
                have hR : outK B 32 = hashN bs := HF.out
                rw [hR] at hm hS
                have hlz : (octets (zeros 32)).size = (octets (hashN bs)).size := by rw [← hR, octets_size, octets_size, outK_len]; rfl
                clear hR
                obtain ⟨R, hRe⟩ : ∃ R, R = hashN bs := ⟨_, rfl⟩
                rw [← hRe] at hm hS hlz
                have HRE := Hd.mk hRe; clear hRe
                go_wp2_with (first
                  | refine wpList_load_row rfl 27 _ rfl h rfl 27 (octets R) (0,0) _ hm.out.heap Tryd.underlying27 rfl hS ?_
                  | refine wpList_store_row rfl 27 _ _ rfl w.heap.size (octets R) rfl rfl 27 (octets (zeros 32)) hm.res.heap hS hlz (octets_one _) ?_)
                exact bodyPost_ret (v := .agg (octets R)) (results_cell_row rfl _ _ w.heap.size 27 (octets R) (0, 0) _ rfl (hm.res.row _).heap Tryd.underlying27 rfl hS) rfl ⟨by rw [HRE.out, HBS.out], below_setRow hm.b (by omega) _⟩
    · have hz1 : ¬ (t : Int) = 0 := by omega
      have hlt : k < padZ s.size := by
        have h1 := HM.out; have h2 := HT.out; unfold padZ at hk ⊢; omega
      have hml : Hd (m = (ocL (ref0 bs k)).length) := ⟨by rw [ocL_len, ref0_len, HM.out, HBS.out, HBL.out]⟩
      go_wp2_with (at_builtin; refine wpList_append_restV rfl _ _ 37 37 5 rfl a c r w.heap.size (ocL (ref0 bs k)) [.int .u8 0] m hml.out rfl (hp.alloc _).rest (hp.alloc _).lt Tryd.underlying37 HI5.out HZ5.out rfl HS5.out HY5.out _ 1 rfl (H0C.out _) (by have := hml.out; have := HM.out; unfold padZ at hk; omega) ?_; intro a2 c2 w2 r2 hR2 hr2 hF2; have hp2 := (hp.alloc _).next rfl (ys := [0]) rfl hR2 hr2 hF2; clear hR2 hr2 hF2)
      rw [← ref0_snoc] at hp2
      exact ⟨⟨k + 1, a2, c2, r2, by omega, by rw [HM.out]; rfl, hp2⟩, by simp [lenV]; have := HM.out; omega⟩
end Go.Proofs.YtkinhfaehfldjaaDoor
