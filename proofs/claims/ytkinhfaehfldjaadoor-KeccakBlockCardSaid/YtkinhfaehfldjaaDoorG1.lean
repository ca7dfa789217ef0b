/- The law KeccakBlock: of at most 135 bytes the hash is one permutation. For every string; the tables as the program's text lays them. -/
import Derived.Test.YtkinhfaehfldjaaDoorD2
import Derived.Test.YtkinhfaehfldjaaDoorG0
namespace Go.Proofs.YtkinhfaehfldjaaDoor
open Go.ChangeShapes Go.WideShapes Go.ChangeAt Go.RowKit
open Go.ChangeMaps (open_string shut_string)

theorem nth_bytes (t : ByteArray) (k : Nat) (h : k < t.size) : ((nth (bytesOf t) k : Nat) : Int) = ((t[((k : Nat) : Int).toNat]'(by simpa using h)).toNat : Int) := by
  have h1 : k < (bytesOf t).length := by rw [bytesOf_length]; exact h
  unfold nth
  rw [List.getD_eq_getElem?_getD, List.getElem?_eq_getElem h1]
  simp [bytesOf]
  rfl
theorem zero32 (W : World) : (zeroValue 32).run Tryd.prog W = .ok (.agg (octets (zeros 136))) W := by
  obtain ⟨i, hi, hz⟩ : ∃ i, Tryd.prog.info? 32 = some i ∧ i.zero = some (.agg (octets (zeros 136))) := ⟨_, rfl, by kernel_rfl⟩
  simp [zeroValue, typeInfo, hi, hz]
theorem padY_oct (bs : List Nat) (h : bs.length < 136) (hb : ∀ i, i < bs.length → nth bs i < 256) (i : Nat) : nth (padY bs) i < 256 := by
  rw [padY_padN bs h]
  by_cases hi : i < (padN bs).length
  · exact padN_oct bs h hb i hi
  · unfold nth
    rw [List.getD_eq_getElem?_getD, List.getElem?_eq_none (by omega)]; decide
theorem outK_succ (A : List Nat) (k : Nat) : outK A (k + 1) = (outK A k).set k ((nth A (k / 8) >>> (8 * (k % 8))) % 256) := by simp only [outK, iter, outStep]
theorem nth_outK (A : List Nat) : ∀ k, k ≤ 32 → ∀ j, j < k → nth (outK A k) j = (nth A (j / 8) >>> (8 * (j % 8))) % 256
  | 0, _, j, hj => absurd hj (Nat.not_lt_zero _)
  | k + 1, hk, j, hj => by
    rw [outK_succ, nth_set, outK_len]
    by_cases h : k = j
    · subst h; rw [if_pos ⟨rfl, by omega⟩]
    · rw [if_neg (fun x => h x.1)]; exact nth_outK A k (by omega) j (by omega)
/-- memory while the bytes are padded -/
structure FillM (w : World) (g : Nat) (l : List Nat) (W : World) : Prop where
  o : HB W g (octets l) 32
  b : Below w.heap.size w W
  e : w.heap.size ≤ g
/-- memory while the lanes are gathered -/
structure LaneM (w : World) (g k : Nat) (l A : List Nat) (W : World) : Prop where
  o : HB W g (octets l) 32
  a : HB W k (lanes A) 23
  b : Below w.heap.size w W
  e : w.heap.size ≤ g
  d : g < k
/-- memory while the answers are held against one another -/
structure EndM (w : World) (k h : Nat) (A R : List Nat) (W : World) : Prop where
  a : HB W k (lanes A) 23
  r : HB W h (octets R) 27
  b : Below w.heap.size w W

set_option maxRecDepth 100000 in
set_option maxHeartbeats 2000000 in
theorem block_walk (s : ByteArray) (w : World) (hv : Vars w) : Calls Tryd.prog 6 #[.string s] w fun e w' => e = .returned (.bool true) ∧ Below w.heap.size w w' := by
  have hn := hv.size
  have HAW := Hd.mk (awake_any w hv hn)
  have HV := Hd.mk hv; clear hv
  have hz32 := zero32
  go_enter Tryd.func6, Tryd.ntmps6
  go_upto_if 13 with (go_at_call 10; refine HAW.out.mono ?_; rintro e w1 ⟨rfl, hb1⟩)
  go_cut [0] (fun a W => ∃ s0 : ByteArray, a = .string s0 ∧ s0.size ≤ 135 ∧ W = w1)
  case first =>
    by_cases h : 135 < s.size
    · go_wp2_with fail
      go_meet
      exact ⟨s.extract 0 135, rfl, by simp; omega, rfl⟩
    · go_wp2_with fail
      go_meet
      exact ⟨s, rfl, by omega, rfl⟩
  case rest =>
  obtain ⟨t, rfl, ht, hw⟩ := hcut
  have hw' := hw.symm; clear hw; subst hw'
  have hs1 := hb1.size
  have hn1 : 3 ≤ w1.heap.size := Nat.le_trans hn hs1
  have hm0 : FillM w w1.heap.size (zeros 136) (w1.alloc (.cells (octets (zeros 136)) 32)) := ⟨HB.new w1 _ _, hb1.alloc hs1 _, hs1⟩
  go_wp2_with fail
  change Code.wp _ _ _ _ (w1.alloc (.cells (octets (zeros 136)) 32))
  clear hb1 hz32
  generalize w1.alloc (.cells (octets (zeros 136)) 32) = w2 at *
  generalize w1.heap.size = g at *
  obtain ⟨bs, hbs⟩ : ∃ bs, bs = bytesOf t := ⟨_, rfl⟩
  have hbl : t.size = bs.length := by rw [hbs, bytesOf_length]
  have hbo : ∀ i, i < bs.length → nth bs i < 256 := by rw [hbs]; exact bytesOf_lt t
  have HBO := Hd.mk hbo; have HBS := Hd.mk hbs; have HBL := Hd.mk hbl
  clear hbo hbs hbl
  go_loopw [5] (fun i W => ∃ k : Nat, k ≤ t.size ∧ i = .int .i64 (k : Int) ∧ FillM w g (fillK bs k) W) (fun i _ => 136 - (intOf i).toNat)
  case atStart => exact ⟨0, by omega, rfl, by rw [fillK_zero]; exact hm0⟩
  case round =>
    clear hm0 w2 w1
    obtain ⟨k, hk, rfl, hm⟩ := hrel
    by_cases hlt : k < t.size
    · have hf := hm.o.free k
      have hc := hm.o.octet k (by rw [fillK_len]; omega)
      have ik : (k : Int) < 136 := by omega
      have hix : ∀ W : World, (Instr.index 9 (.string t) (.int .i64 (k : Int))).run Tryd.prog W = .ok (.int .u8 ((nth bs k : Nat) : Int)) W := fun W => by
        rw [run_index_string W 9 t .i64 k Tryd.underlying9, dif_pos (by omega), HBS.out, nth_bytes t k hlt]
      go_upto_region 7 with fail
      have ho := hm.o.setOctet k (nth bs k)
      rw [← fillK_succ] at ho
      have hm' : FillM w g (fillK bs (k + 1)) (wr.setCell ⟨g, k, none⟩ (.int .u8 ((nth bs k : Nat) : Int))) := ⟨ho, hm.b.setCell hm.e _, hm.e⟩
      generalize wr.setCell ⟨g, k, none⟩ (.int .u8 ((nth bs k : Nat) : Int)) = w2 at hm' ⊢
      clear hm hf hc hix ho
      go_wp2
      exact ⟨⟨k + 1, by omega, by go_num, hm'⟩, by simp [intOf]; omega⟩
    · obtain rfl : k = t.size := by omega
      have hbl := HBL.out
      rw [show fillK bs t.size = fillK bs bs.length by rw [hbl]] at hm
      have hf := hm.o.free t.size
      have hc := hm.o.octet t.size (by rw [fillK_len]; omega)
      have hx8 : ∀ x : Nat, bits .xor .u8 (x : Int) 1 = ((xor8 x 1 : Nat) : Int) := fun x => bits_xor8 x 1
      have it : (t.size : Int) < 136 := by omega
      clear hbl
      go_upto_region 10 with fail
      have ho := hm.o.setOctet t.size (xor8 (nth (fillK bs bs.length) t.size) 1)
      rw [show (fillK bs bs.length).set t.size (xor8 (nth (fillK bs bs.length) t.size) 1) = padX bs by rw [HBL.out]; rfl] at ho
      have hm1 : FillM w g (padX bs) (wr.setCell ⟨g, t.size, none⟩ (.int .u8 ((xor8 (nth (fillK bs bs.length) t.size) 1 : Nat) : Int))) := ⟨ho, hm.b.setCell hm.e _, hm.e⟩
      change Code.wp _ _ _ _ (wr.setCell ⟨g, t.size, none⟩ (.int .u8 ((xor8 (nth (fillK bs bs.length) t.size) 1 : Nat) : Int)))
      clear hf hc hx8 ho hm
      generalize wr.setCell ⟨g, t.size, none⟩ (.int .u8 ((xor8 (nth (fillK bs bs.length) t.size) 1 : Nat) : Int)) = w2 at *
      have hf := hm1.o.free 135
      have hc := hm1.o.octet 135 (by unfold padX; rw [List.length_set, fillK_len]; decide)
      have hx8 : ∀ x : Nat, bits .xor .u8 (x : Int) 128 = ((xor8 x 128 : Nat) : Int) := fun x => bits_xor8 x 128
      go_upto_region 11 with fail
      have ho := hm1.o.setOctet 135 (xor8 (nth (padX bs) 135) 128)
      have hm2 : FillM w g (padY bs) (w2.setCell ⟨g, 135, none⟩ (.int .u8 ((xor8 (nth (padX bs) 135) 128 : Nat) : Int))) := ⟨ho, hm1.b.setCell hm1.e _, hm1.e⟩
      change Code.wp _ _ _ _ (w2.setCell ⟨g, 135, none⟩ (.int .u8 ((xor8 (nth (padX bs) 135) 128 : Nat) : Int)))
      clear hf hc hx8 ho hm1
      generalize w2.setCell ⟨g, 135, none⟩ (.int .u8 ((xor8 (nth (padX bs) 135) 128 : Nat) : Int)) = w3 at *
      have hgl := hm2.o.lt
      have hm3 : LaneM w g w3.heap.size (padY bs) (zeros 25) (w3.alloc (.cells (lanes (zeros 25)) 23)) := ⟨hm2.o.alloc _, HB.new w3 _ _, hm2.b.alloc (by omega) _, hm2.e, hgl⟩
      go_wp2_with fail
      change Code.wp _ _ _ _ (w3.alloc (.cells (lanes (zeros 25)) 23))
      clear hm2 hgl
      generalize w3.alloc (.cells (lanes (zeros 25)) 23) = w4 at *
      generalize w3.heap.size = a at *
      have HP8 : Hd (∀ i, nth (padY bs) i < 256) := ⟨fun i => padY_oct bs (by have := HBL.out; omega) HBO.out i⟩
      have HPl : Hd ((padY bs).length = 136) := ⟨padY_len bs⟩
      have HHB : Hd (hashN bs = outN (permN (orK (padY bs) 136))) := ⟨hash_block bs (by have := HBL.out; omega) HBO.out⟩
      generalize padY bs = P at *
      have hxo := bits_orr
      go_loopw [7] (fun i W => ∃ k : Nat, k ≤ 136 ∧ i = .int .i64 (k : Int) ∧ LaneM w g a P (orK P k) W) (fun i _ => 136 - (intOf i).toNat)
      case atStart => exact ⟨0, by omega, rfl, by rw [orK_zero]; exact hm3⟩
      case round =>
        clear hm3 w4 w3 w2
        obtain ⟨k, hk, rfl, hm⟩ := hrel
        by_cases hlt : k < 136
        · have hoc := hm.o.octet k (by rw [HPl.out]; exact hlt)
          have hb256 := HP8.out k
          obtain ⟨y, hy⟩ : ∃ y, y = nth P k := ⟨_, rfl⟩
          rw [← hy] at hoc hb256
          obtain ⟨d, hd⟩ : ∃ x, x = k / 8 := ⟨_, rfl⟩
          obtain ⟨f, hf⟩ : ∃ x, x = k % 8 := ⟨_, rfl⟩
          obtain ⟨sh, hs⟩ : ∃ x, x = 8 * f := ⟨_, rfl⟩
          have e1 : IntKind.i64.wrap ((k : Int).tdiv 8) = (d : Int) := by rw [IntWalk.i64_quo _ _ (by omega)]; omega
          have e1' : IntKind.i64.wrap ((k : Int) / 8) = (d : Int) := by rw [IntWalk.i64_in _ (by omega)]; omega
          have e2' : (k : Int) % 8 = (f : Int) := by omega
          have e2 : (k : Int).tmod 8 = (f : Int) := by rw [Int.tmod_eq_emod_of_nonneg (by omega)]; omega
          have e3 : IntKind.i64.wrap (8 * (f : Int)) = (sh : Int) := by rw [IntWalk.i64_in _ (by omega)]; omega
          have e4 : IntKind.u64.wrap (y : Int) = (y : Int) := IntWalk.u64_in _ (by omega)
          have e5 := run_shl (P := Tryd.prog) y sh (by omega) .i64
          have e5' := run_shl (P := Tryd.prog) y sh (by omega) .u64
          have e6 := wrap_shl_min y sh (by omega)
          have e8 : IntKind.u64.wrap (sh : Int) = (sh : Int) := IntWalk.u64_in _ (by omega)
          have im : (d : Int) < 25 := by omega
          have ik : (k : Int) < 136 := by omega
          have hc := hm.a.lane d (by rw [orK_len]; omega)
          have hfz := hm.a.free d
          have HE : Hd (orK P (k + 1) = (orK P k).set d (orr (nth (orK P k) d) (shlw y sh))) := ⟨by rw [hs, hf, hd, hy, orK_succ]⟩
          have HY0 := Hd.mk hy
          clear hs hf hd hy
          go_upto_region 15 with fail
          refine wp_region_still_tail 17 (by kernel_rfl) (by kernel_rfl) ?_
          simp only [List.take_succ_cons, List.take_zero, List.drop_succ_cons, List.drop_zero]
          repeat still_step
          refine wpStill_nil ?_
          change wpList _ _ _ _ _ wr.drew
          clear e1 e2 e1' e2' e3 e4 e5 e5' e6 e8
          go_wp2
          have hA' := hm.a.drew.setLane d (orr (nth (orK P k) d) (shlw y sh))
          rw [← HE.out] at hA'
          have hd := hm.d
          have he := hm.e
          exact ⟨⟨k + 1, by omega, by go_num, ⟨hm.o.drew.other _ _ (by simp; omega), hA', hm.b.drew.setCell (by simp; omega) _, hm.e, hm.d⟩⟩, by simp [intOf]; omega⟩
        · obtain rfl : k = 136 := by omega
          obtain ⟨Z, hZ⟩ : ∃ Z, Z = permN (orK P 136) := ⟨_, rfl⟩
          obtain ⟨R, hR⟩ : ∃ R, R = hashN bs := ⟨_, rfl⟩
          have hY : (orK P 136).length = 25 := orK_len P 136
          have hZl : Z.length = 25 := by rw [hZ, permN_len]; exact hY
          have hRl : R.length = 32 := by rw [hR]; exact outK_len _ _
          have hRZ : ∀ j, j < 32 → nth R j = (nth Z (j / 8) >>> (8 * (j % 8))) % 256 := by
            intro j hj; rw [hR, HHB.out, ← hZ]; exact nth_outK Z 32 (Nat.le_refl _) j hj
          have hp := perm_any (orK P 136) hY wr (HV.out.below hm.b hn) (Nat.le_trans hn hm.b.size)
          rw [← hZ] at hp
          have hsa : ∀ W : World, Below w.heap.size w W → Calls Tryd.prog 13 #[.slice (some ⟨W.heap.size, 0, none⟩) 1 1] (W.alloc (.cells #[.string t] 9)) fun e W' => e = .returned (.agg (octets R)) ∧ Below (W.alloc (.cells #[.string t] 9)).heap.size (W.alloc (.cells #[.string t] 9)) W' := fun W hb => by
            have hb' : Below w.heap.size w (W.alloc (.cells #[.string t] 9)) := hb.alloc hb.size _
            have := sum_any _ _ [t] 1 (strs_one (HB.new W #[.string t] 9)) (by rw [cat_one, bytesOf_length]; omega) (by simp [maxLen]) (HV.out.below hb' hn) (Nat.le_trans hn hb'.size)
            rw [cat_one, ← HBS.out, ← hR] at this
            exact this
          have hS0 : (Tryd.prog.info? 23).map (·.size) = some (lanes (orK P 136)).size := by rw [lanes_size, hY]; kernel_rfl
          have hS1 : (Tryd.prog.info? 23).map (·.size) = some (lanes Z).size := by rw [lanes_size, hZl]; kernel_rfl
          have hlz : (lanes (orK P 136)).size = (lanes Z).size := by rw [lanes_size, lanes_size, hY, hZl]
          have hS2 : (Tryd.prog.info? 27).map (·.size) = some (octets R).size := info27 _ hRl
          have hlr : (octets (zeros 32)).size = (octets R).size := by rw [octets_size, octets_size, hRl]; rfl
          have HP := Hd.mk hp; have HSA := Hd.mk hsa; have HRZ := Hd.mk hRZ; have HZ := Hd.mk hZ; have HR := Hd.mk hR
          have HZl := Hd.mk hZl; have HRl := Hd.mk hRl
          have hge := hm.e
          have hgd := hm.d
          clear hp hsa hRZ hZ hR hY hZl hRl
          generalize orK P 136 = Y at *
          go_upto_region 18 with (first
            | refine wpList_load_row rfl 23 _ rfl a rfl 23 (lanes Y) (0,0) _ hm.a.heap Tryd.underlying23 rfl hS0 ?_
            | (go_at_call 11; refine HP.out.mono ?_; rintro e w5 ⟨rfl, hb5⟩)
            | (refine wpList_store_row rfl 23 _ _ rfl a (lanes Z) rfl rfl 23 (lanes Y) (hm.a.below hb5 hm.a.lt).heap hS1 hlz (lanes_one _) ?_; have hbS := below_setRow (hm.b.trans (hb5.mono hm.b.size)) (show w.heap.size ≤ a by omega) (lanes Z); have haS := (hm.a.below hb5 hm.a.lt).row (lanes Z); generalize w5.setRow a (lanes Z) = w6 at *)
            | (go_at_call 13; refine (HSA.out w6 hbS).mono ?_; rintro e w7 ⟨rfl, hb7⟩)
            | refine wpList_store_row rfl 27 _ _ rfl w7.heap.size (octets R) rfl rfl 27 (octets (zeros 32)) (HB.new w7 (octets (zeros 32)) 27).heap hS2 hlr (octets_one _) ?_)
          have ha6 := haS.lt
          have hb67 : Below w6.heap.size w6 w7 := ((Below.refl _ _).alloc (Nat.le_refl _) _).trans (hb7.mono (by simp))
          have hz7 := hb67.size
          have hB7 : Below w.heap.size w w7 := hbS.trans (hb67.mono hbS.size)
          have hE : EndM w a w7.heap.size Z R ((w7.alloc (.cells (octets (zeros 32)) 27)).setRow w7.heap.size (octets R)) :=
            ⟨((haS.below hb67 ha6).alloc _).rowOther _ _ (by omega), (HB.new w7 _ _).row _, below_setRow (hB7.alloc hB7.size _) hB7.size _⟩
          change Code.wp _ _ _ _ ((w7.alloc (.cells (octets (zeros 32)) 27)).setRow w7.heap.size (octets R))
          clear hm hb5 hbS haS ha6 hb67 hb7 HP HSA hS0 hlz hS1 hS2 hlr
          generalize (w7.alloc (.cells (octets (zeros 32)) 27)).setRow w7.heap.size (octets R) = w8 at *
          generalize w7.heap.size = h at *
          clear hB7 hz7
          go_wp2_with fail
          go_loopw [9] (fun i W => ∃ k : Nat, k ≤ 32 ∧ i = .int .i64 (k : Int) ∧ EndM w a h Z R W) (fun i _ => 32 - (intOf i).toNat)
          case atStart => exact ⟨0, by omega, rfl, hE⟩
          case round =>
            clear hE w8
            obtain ⟨k, hk, rfl, hm⟩ := hrel
            by_cases hlt : k < 32
            · have hoc := hm.r.octet k (by rw [HRl.out]; exact hlt)
              obtain ⟨y, hy⟩ : ∃ y, y = nth R k := ⟨_, rfl⟩
              rw [← hy] at hoc
              obtain ⟨d, hd⟩ : ∃ x, x = k / 8 := ⟨_, rfl⟩
              obtain ⟨f, hf⟩ : ∃ x, x = k % 8 := ⟨_, rfl⟩
              obtain ⟨sh, hs⟩ : ∃ x, x = 8 * f := ⟨_, rfl⟩
              have hcl := hm.a.lane d (by rw [HZl.out]; omega)
              obtain ⟨x, hx⟩ : ∃ x, x = nth Z d := ⟨_, rfl⟩
              rw [← hx] at hcl
              have hyx : y = (x >>> sh) % 256 := by rw [hy, HRZ.out k hlt, hx, hs, hf, hd]
              have e1 : IntKind.i64.wrap ((k : Int).tdiv 8) = (d : Int) := by rw [IntWalk.i64_quo _ _ (by omega)]; omega
              have e1' : IntKind.i64.wrap ((k : Int) / 8) = (d : Int) := by rw [IntWalk.i64_in _ (by omega)]; omega
              have e2' : (k : Int) % 8 = (f : Int) := by omega
              have e2 : (k : Int).tmod 8 = (f : Int) := by rw [Int.tmod_eq_emod_of_nonneg (by omega)]; omega
              have e3 : IntKind.i64.wrap (8 * (f : Int)) = (sh : Int) := by rw [IntWalk.i64_in _ (by omega)]; omega
              have e8 : IntKind.u64.wrap (sh : Int) = (sh : Int) := IntWalk.u64_in _ (by omega)
              have e9 : (x : Int) / 2 ^ sh % 256 = (y : Int) := by rw [div_shr, hyx]; omega
              have im : (d : Int) < 25 := by omega
              have ik : (k : Int) < 32 := by omega
              have hsh : (sh : Int) < 64 := by omega
              have HY0 := Hd.mk hy; have HX0 := Hd.mk hx; have HYX := Hd.mk hyx
              clear hs hf hd hy hx hyx
              go_upto_region 21 with fail
              refine wp_region_still_tail 13 (by kernel_rfl) (by kernel_rfl) ?_
              simp only [List.take_succ_cons, List.take_zero, List.drop_succ_cons, List.drop_zero]
              repeat still_step
              refine wpStill_nil ?_
              change wpList _ _ _ _ _ wr.drew
              go_wp2
              exact ⟨⟨k + 1, by omega, by go_num, ⟨hm.a.drew, hm.r.drew, hm.b.drew⟩⟩, by simp [intOf]; omega⟩
            · obtain rfl : k = 32 := by omega
              go_wp2_with fail
              go_ret
              exact ⟨rfl, hm.b⟩

set_option maxRecDepth 100000 in
theorem block_lifted (os : Os) (started : os.Started) (H : Type) (enc : TypeId × Value → H) :
    ReturnsInHanded {} Tryd.checked os 6 .any (fun w args => (Rows.keccakBlockSpec.pre enc Tryd.prog Tryd.f6 [] false w args ∧ laidMetH Tryd.prog laid3 w) ∧ sizedMet enc Tryd.prog Tryd.f6 (OpenSpec.ofChange Rows.keccakBlockSpec) false w args)
      (Rows.keccakBlockSpec.post enc Tryd.prog Tryd.f6 false true false false) := by
  refine returnsInHanded_of_change_and (C := Tryd.checked) (X := fun w _ => laidMetH Tryd.prog laid3 w) (fun _ _ _ hh h => h.of_heap hh) own started (by kernel_rfl) Tryd.func6
    (ChangeSpec.witness_shaped (enc := enc) (C := Tryd.checked) (os := os) (X := fun w _ => laidMetH Tryd.prog laid3 w) false (World.doorLaid Tryd.prog 4000 os) #[.string ByteArray.empty] 8 rfl (World.shaped_of_RefB (by kernel_rfl) (by kernel_rfl)) (by kernel_rfl) (by kernel_rfl) (by kernel_rfl) (door_met os _)) ?_
  intro W base args ds gs before hval0 hW _ _ hL _
  have hval : ∀ (j : Nat) t v, Tryd.f6.params[j]? = some t → args[j]? = some v → Value.okWide Tryd.prog W .any base t v := hval0
  have hW' := hW
  obtain ⟨p, q, hA0, hV, rfl, hfz, hnd⟩ := hW
  have hA : DataW.TrodAll enc Tryd.prog W 0 (fun _ => true) true Tryd.f6.params.toList args.toList ds p := hA0
  rw [Tryd.params6] at hA hval
  obtain ⟨v0, d0, rfl, rfl, h0⟩ := trodAll_one hA
  obtain ⟨rfl, rfl⟩ := trodVars_none hV
  obtain ⟨s, rfl, rfl, rfl, hs⟩ := open_string Tryd.underlying9 (hval 0 9 v0 rfl rfl) h0
  clear hA0 hval0
  simp only [List.append_nil] at hW'
  refine (block_walk s W (of_laid hL)).mono fun e W' ⟨he, hb⟩ => ?_
  subst he
  exact ⟨_, rfl, post_of_below (pa := []) (pv := []) hW' (fun _ _ _ => trodAll_mk1 (shut_bool Tryd.underlying4 true)) (fun sp _ => trodAll_mk1 (shut_string Tryd.underlying9 hs)) (fun _ _ => rfl) rfl hb (ok_one (by kernel_rfl) rfl (okWide_bool_mk Tryd.underlying4 true))⟩

theorem block_holds : Rows.KeccakBlockSaid :=
  OpenClaim.holds_of_wide 6 Tryd.f6 rfl rfl rfl rfl rfl rfl rfl ⟨rfl, rfl, rfl, rfl, rfl⟩ rfl rfl rfl rfl rfl (by kernel_rfl) Tryd.func6 (by kernel_rfl)
    (of_decide_eq_true (by kernel_rfl)) (by unfold Func.isWrapper; rw [if_neg (of_decide_eq_false (by kernel_rfl))]; exact ⟨rfl, rfl⟩)
    (fun os started H enc _ => block_lifted os started H enc)
#print axioms block_holds
end Go.Proofs.YtkinhfaehfldjaaDoor
