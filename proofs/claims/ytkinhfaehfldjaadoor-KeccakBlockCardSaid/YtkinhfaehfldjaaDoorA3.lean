/- The walk of keccak.block: bytes into the lanes, then the permutation. -/
import Derived.Test.YtkinhfaehfldjaaDoorA2
namespace Go.Proofs.YtkinhfaehfldjaaDoor
open Go.RowKit
def octets (l : List Nat) : Array Value := (l.map fun n : Nat => Value.int .u8 (n : Int)).toArray
def absStep (bs : List Nat) (i : Nat) (A : List Nat) : List Nat := A.set (i / 8) (xr (nth A (i / 8)) (shlw (nth bs i) (8 * (i % 8))))
def absN (A bs : List Nat) (k : Nat) : List Nat := iter (absStep bs) A k
def blockN (A bs : List Nat) : List Nat := permN (absN A bs bs.length)
theorem absN_len (A bs : List Nat) (k : Nat) : (absN A bs k).length = A.length := iter_len (fun _ _ => by simp [absStep]) _ k
theorem permN_len (A : List Nat) : (permN A).length = A.length := permK_len A 24
theorem blockN_len (A bs : List Nat) : (blockN A bs).length = A.length := (permN_len _).trans (absN_len _ _ _)

/-- The cells of block g from o on are these bytes. -/
structure Octs (W : World) (g o : Nat) (bs : List Nat) : Prop where
  cell : ∀ i, i < bs.length → W.cell? ⟨g, o + i, none⟩ = some (.int .u8 ((nth bs i : Nat) : Int))
  lt : g < W.heap.size
theorem Octs.below {B : Nat} {W W' : World} {g o : Nat} {bs : List Nat} (h : Octs W g o bs) (hb : Below B W W') (hg : g < B) : Octs W' g o bs :=
  ⟨fun i hi => (hb.cell (p := ⟨g, o + i, none⟩) hg).trans (h.cell i hi), Nat.lt_of_lt_of_le h.lt hb.size⟩

set_option maxRecDepth 100000 in
set_option maxHeartbeats 1000000 in
theorem block_any (L bs : List Nat) (hL : L.length = 25) (hbl : bs.length ≤ 200) (hb8 : ∀ i, i < bs.length → nth bs i < 256) (g o c : Nat) (w : World) (hv : Vars w) (hn : 3 ≤ w.heap.size) (ho : Octs w g o bs) :
    Calls Tryd.prog 24 #[.agg (lanes L), .slice (some ⟨g, o, none⟩) bs.length c] w fun e w' => e = .returned (.agg (lanes (blockN L bs))) ∧ Below w.heap.size w w' := by
  have hx := bits_xr
  have HL := Hd.mk hL; clear hL
  have HB8 := Hd.mk hb8; clear hb8
  obtain ⟨len, hlen⟩ : ∃ n, n = bs.length := ⟨_, rfl⟩
  rw [← hlen] at hbl ⊢
  have HLEN := Hd.mk hlen; clear hlen
  go_enter Tryd.func24, Tryd.ntmps24
  go_wp2_with fail
  go_loopw [9] (fun i wr => ∃ k : Nat, k ≤ len ∧ i = .int .i64 k ∧ HB wr w.heap.size (lanes (absN L bs k)) 23 ∧ HB wr (w.heap.size + 1) (lanes (zeros 25)) 23 ∧ Below w.heap.size w wr) (fun i _ => len - (intOf i).toNat)
  case atStart => exact ⟨0, by omega, rfl, (HB.new w _ _).alloc _, new2 w _ _ _, ((Below.refl _ _).alloc (Nat.le_refl _) _).alloc (by simp) _⟩
  case round =>
    obtain ⟨k, hk, rfl, hA, hR, hb⟩ := hrel
    by_cases hlt : k < len
    · have hoc := (ho.below hb ho.lt).cell k (by rw [← HLEN.out]; exact hlt)
      have hb256 := HB8.out k (by rw [← HLEN.out]; exact hlt)
      obtain ⟨b, hbe⟩ : ∃ b, b = nth bs k := ⟨_, rfl⟩
      rw [← hbe] at hoc hb256
      obtain ⟨m, hm⟩ : ∃ x, x = k / 8 := ⟨_, rfl⟩
      obtain ⟨r, hr⟩ : ∃ x, x = k % 8 := ⟨_, rfl⟩
      obtain ⟨s, hs⟩ : ∃ x, x = 8 * r := ⟨_, rfl⟩
      have e1 : IntKind.i64.wrap ((k : Int).tdiv 8) = (m : Int) := by rw [IntWalk.i64_quo _ _ (by omega)]; omega
      have e1' : IntKind.i64.wrap ((k : Int) / 8) = (m : Int) := by rw [IntWalk.i64_in _ (by omega)]; omega
      have e2' : (k : Int) % 8 = (r : Int) := by omega
      have e2 : (k : Int).tmod 8 = (r : Int) := by rw [Int.tmod_eq_emod_of_nonneg (by omega)]; omega
      have e3 : IntKind.i64.wrap (8 * (r : Int)) = (s : Int) := by rw [IntWalk.i64_in _ (by omega)]; omega
      have e4 : IntKind.u64.wrap (b : Int) = (b : Int) := IntWalk.u64_in _ (by omega)
      have e5 := run_shl (P := Tryd.prog) b s (by omega) .i64
      have e6 := wrap_shl_min b s (by omega)
      have im : (m : Int) < 25 := by omega
      have hc := hA.lane m (by rw [absN_len, HL.out]; omega)
      have hf := hA.free m
      have HE : Hd (absN L bs (k + 1) = (absN L bs k).set m (xr (nth (absN L bs k) m) (shlw b s))) := ⟨by rw [hs, hr, hm, hbe]; rfl⟩
      have HE0 := Hd.mk hbe
      clear hs hr hm hbe
      go_upto_region 4 with fail
      refine wp_region_still_tail 12 (by kernel_rfl) (by kernel_rfl) ?_
      simp only [List.take_succ_cons, List.take_zero, List.drop_succ_cons, List.drop_zero]
      repeat still_step
      refine wpStill_nil ?_
      change wpList _ _ _ _ _ wr.drew
      clear e1 e2 e1' e2' e3 e4 e5 e6
      go_wp2
      have hA' := hA.drew.setLane m (xr (nth (absN L bs k) m) (shlw b s))
      rw [← HE.out] at hA'
      exact ⟨⟨k + 1, by omega, by go_num, hA', hR.drew.other _ _ (by simp), hb.drew.setCell (by simp) _⟩, by simp [intOf]; omega⟩
    · obtain rfl : k = len := by omega
      have hS : (Tryd.prog.info? 23).map (·.size) = some (lanes (blockN L bs)).size := by
        rw [lanes_size, blockN_len, HL.out]; kernel_rfl
      have hS0 : (Tryd.prog.info? 23).map (·.size) = some (lanes (absN L bs k)).size := by
        rw [lanes_size, absN_len, HL.out]; kernel_rfl
      have hlz : (lanes (zeros 25)).size = (lanes (blockN L bs)).size := by rw [lanes_size, lanes_size, blockN_len, HL.out]; rfl
      have hp := perm_any (absN L bs k) (by rw [absN_len, HL.out]) wr (hv.below hb hn) (Nat.le_trans hn hb.size)
      have hpe : permN (absN L bs k) = blockN L bs := by rw [HLEN.out]; rfl
      rw [hpe] at hp
      have HP := Hd.mk hp; clear hp hpe
      go_wp2_with (first
        | refine wpList_load_row rfl 23 _ rfl w.heap.size rfl 23 (lanes (absN L bs k)) (0,0) _ hA.heap Tryd.underlying23 rfl hS0 ?_
        | (go_at_call 11; refine HP.out.mono ?_; rintro e w1 ⟨rfl, hb1⟩; have hR1 := hR.below hb1 hR.lt)
        | refine wpList_store_row rfl 23 _ _ rfl (w.heap.size + 1) (lanes (blockN L bs)) rfl rfl 23 (lanes (zeros 25)) hR1.heap hS hlz (lanes_one _) ?_)
      refine bodyPost_ret (v := .agg (lanes (blockN L bs))) (results_cell_row rfl _ _ (w.heap.size + 1) 23 (lanes (blockN L bs)) (0, 0) _ rfl (hR1.row _).heap Tryd.underlying23 rfl hS) rfl ⟨rfl, below_setRow (hb.trans (hb1.mono hb.size)) (by omega) _⟩
end Go.Proofs.YtkinhfaehfldjaaDoor
