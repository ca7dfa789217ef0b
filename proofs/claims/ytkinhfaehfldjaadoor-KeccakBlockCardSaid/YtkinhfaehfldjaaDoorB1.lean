/- The walk of awake: it answers true. -/
import Derived.Test.YtkinhfaehfldjaaDoorB0
namespace Go.Proofs.YtkinhfaehfldjaaDoor
open Go.RowKit

/-- a fresh variable of 32 bytes is stored into -/
theorem stored32 (W : World) (R : List Nat) : HB ((W.alloc (.cells (octets (zeros 32)) 27)).setRow W.heap.size (octets R)) W.heap.size (octets R) 27 ∧ Below W.heap.size W ((W.alloc (.cells (octets (zeros 32)) 27)).setRow W.heap.size (octets R)) :=
  ⟨(HB.new W (octets (zeros 32)) 27).row _, below_setRow ((Below.refl _ _).alloc (Nat.le_refl _) _) (Nat.le_refl _) _⟩

set_option maxRecDepth 100000 in
set_option maxHeartbeats 1000000 in
theorem awake_any (w : World) (hv : Vars w) (hn : 3 ≤ w.heap.size) : Calls Tryd.prog 10 #[] w fun e w' => e = .returned (.bool true) ∧ Below w.heap.size w w' := by
  have HN := Hd.mk (new_going w hn)
  have HA := Hd.mk (fun W (hb : Below w.heap.size w W) => sum_any W none [] 0 (fun i hi => by simp at hi) (by simp [cat]) (by simp) (hv.below hb hn) (Nat.le_trans hn hb.size))
  have hi27 : ∀ R : List Nat, R.length = 32 → (Tryd.prog.info? 27).map (·.size) = some (octets R).size := info27
  have hlz : ∀ R : List Nat, R.length = 32 → (octets (zeros 32)).size = (octets R).size := fun R h => by rw [octets_size, octets_size, h]; rfl
  have HI := Hd.mk hi27; have HLZ := Hd.mk hlz; clear hi27 hlz
  go_enter Tryd.func10, Tryd.ntmps10
  go_upto_region 5 with (first
    | (go_at_call 15; refine HN.out.mono ?_; rintro e w1 ⟨rfl, hg1, hb1⟩)
    | (go_at_call 13; refine (HA.out _ hb1).mono ?_; rintro e w2 ⟨rfl, hb2⟩)
    | (refine wpList_store_row rfl 27 _ _ rfl w2.heap.size (octets (hashN (cat []))) rfl rfl 27 (octets (zeros 32)) (HB.new w2 (octets (zeros 32)) 27).heap (HI.out _ (hashN_len _)) (HLZ.out _ (hashN_len _)) (octets_one _) ?_))
  have hs3 := stored32 w2 (hashN (cat []))
  have hg3 := (hg1.below hb2 (Nat.le_refl _)).below hs3.2 (Nat.le_refl _)
  have hb3 : Below w.heap.size w ((w2.alloc (.cells (octets (zeros 32)) 27)).setRow w2.heap.size (octets (hashN (cat [])))) :=
    (hb1.trans (hb2.mono hb1.size)).trans (hs3.2.mono (Nat.le_trans hb1.size hb2.size))
  have ha3 := hs3.1
  change Code.wp _ _ _ _ ((w2.alloc (.cells (octets (zeros 32)) 27)).setRow w2.heap.size (octets (hashN (cat []))))
  have hlt3 := ha3.lt
  generalize (w2.alloc (.cells (octets (zeros 32)) 27)).setRow w2.heap.size (octets (hashN (cat []))) = w3 at *
  have hgm : w.heap.size < w2.heap.size := Nat.lt_of_lt_of_le hg1.lt.1 hb2.size
  clear hs3 hg1 hb1 hb2
  generalize w2.heap.size = m at *
  clear w2 w1
  have hbs := HB.new w3 #[.string ⟨#[97]⟩, .string ⟨#[98, 99]⟩] 9
  have HS5 : Strs (w3.alloc (.cells #[.string ⟨#[97]⟩, .string ⟨#[98, 99]⟩] 9)) (some ⟨w3.heap.size, 0, none⟩) [⟨#[97]⟩, ⟨#[98, 99]⟩] := by
    intro i hi
    refine ⟨_, _, rfl, hbs.lt, ?_⟩
    rw [Nat.zero_add, hbs.cell]
    match i, hi with
    | 0, _ => rfl
    | 1, _ => rfl
  have hb4 : Below w3.heap.size w3 (w3.alloc (.cells #[.string ⟨#[97]⟩, .string ⟨#[98, 99]⟩] 9)) := (Below.refl _ _).alloc (Nat.le_refl _) _
  have hb4' := hb3.trans (hb4.mono hb3.size)
  have HC := Hd.mk (sum_any _ _ _ 2 HS5 (by simp [cat, bytesOf]) (by simp [maxLen]) (hv.below hb4' hn) (Nat.le_trans hn hb4'.size))
  clear HS5 hbs hb4'
  go_upto_region 6 with (first
    | (go_at_call 13; refine HC.out.mono ?_; rintro e w5 ⟨rfl, hb5⟩)
    | (refine wpList_store_row rfl 27 _ _ rfl w5.heap.size (octets (hashN (cat [⟨#[97]⟩, ⟨#[98, 99]⟩]))) rfl rfl 27 (octets (zeros 32)) (HB.new w5 (octets (zeros 32)) 27).heap (HI.out _ (hashN_len _)) (HLZ.out _ (hashN_len _)) (octets_one _) ?_))
  have hb45 : Below w3.heap.size w3 w5 := hb4.trans (hb5.mono hb4.size)
  have hs6 := stored32 w5 (hashN (cat [⟨#[97]⟩, ⟨#[98, 99]⟩]))
  have hb6 : Below w3.heap.size w3 ((w5.alloc (.cells (octets (zeros 32)) 27)).setRow w5.heap.size (octets (hashN (cat [⟨#[97]⟩, ⟨#[98, 99]⟩])))) := hb45.trans (hs6.2.mono hb45.size)
  have hbb := hs6.1
  change Code.wp _ _ _ _ ((w5.alloc (.cells (octets (zeros 32)) 27)).setRow w5.heap.size (octets (hashN (cat [⟨#[97]⟩, ⟨#[98, 99]⟩]))))
  generalize (w5.alloc (.cells (octets (zeros 32)) 27)).setRow w5.heap.size (octets (hashN (cat [⟨#[97]⟩, ⟨#[98, 99]⟩]))) = w6 at *
  have hmm : w3.heap.size ≤ w5.heap.size := hb45.size
  have hg6 := hg3.below hb6 (Nat.le_refl _)
  have ha6 := ha3.below hb6 hlt3
  have hb06 := hb3.trans (hb6.mono hb3.size)
  have hgl := hg3.lt
  clear hg3 ha3 hb3 hb4 hb5 hb45 hs6 hb6 HC
  have hz3 : w.heap.size < w3.heap.size := hgl.1
  generalize w5.heap.size = m5 at *
  generalize hz3e : w3.heap.size = z3 at *
  clear hz3e w5 w3
  have hv6 := hv.below hb06 hn
  have hn6 := Nat.le_trans hn hb06.size
  have HW := Hd.mk (hg6.write hv6 hn6 ⟨#[97, 98, 99]⟩ (by simp [ByteArray.size]))
  go_upto_region 7 with (go_at_call 16; refine HW.out.mono ?_; rintro e w7 ⟨rfl, r7, hg7, hr7, hf7⟩)
  have hcat : ([] : List Nat) ++ bytesOf ⟨#[97, 98, 99]⟩ = [97, 98, 99] := rfl
  rw [hcat] at hg7
  clear hcat
  have ha7 := hf7.hb ha6 (by omega)
  have hbb7 := hf7.hb hbb (by omega)
  have hb07 := hf7.below hb06 (Nat.le_refl _) (by omega)
  have hm7 := hbb7.lt
  clear ha6 hbb hf7 hv6 hn6 hb06 hg6 HW hr7 w6
  have hv7 := hv.below hb07 hn
  have hn7 := Nat.le_trans hn hb07.size
  have HSU := Hd.mk (hg7.sum hv7 hn7)
  go_upto_region 8 with (first
    | (go_at_call 17; refine HSU.out.mono ?_; rintro e w8 ⟨rfl, hb8⟩)
    | (refine wpList_store_row rfl 27 _ _ rfl w8.heap.size (octets (hashN [97, 98, 99])) rfl rfl 27 (octets (zeros 32)) (HB.new w8 (octets (zeros 32)) 27).heap (HI.out _ (hashN_len _)) (HLZ.out _ (hashN_len _)) (octets_one _) ?_))
  have hs9 := stored32 w8 (hashN [97, 98, 99])
  have hb9 : Below w7.heap.size w7 ((w8.alloc (.cells (octets (zeros 32)) 27)).setRow w8.heap.size (octets (hashN [97, 98, 99]))) := hb8.trans (hs9.2.mono hb8.size)
  have hcc := hs9.1
  change Code.wp _ _ _ _ ((w8.alloc (.cells (octets (zeros 32)) 27)).setRow w8.heap.size (octets (hashN [97, 98, 99])))
  generalize (w8.alloc (.cells (octets (zeros 32)) 27)).setRow w8.heap.size (octets (hashN [97, 98, 99])) = w9 at *
  generalize w8.heap.size = m8 at *
  have hg9 := hg7.below hb9 (Nat.le_refl _)
  have ha9 := ha7.below hb9 (by omega)
  have hbb9 := hbb7.below hb9 hm7
  have hb09 := hb07.trans (hb9.mono hb07.size)
  clear hs9 hb9 hb8 hg7 ha7 hbb7 hb07 hv7 hn7 HSU hm7 w8 w7
  have c0 : w9.cell? ⟨m, 0, none⟩ = some (.int .u8 197) := by
    rw [ha9.octet 0 (by rw [hashN_len]; omega)]; rw [show cat [] = [] from rfl, hash_nil]; rfl
  have c1 : w9.cell? ⟨m, 1, none⟩ = some (.int .u8 210) := by
    rw [ha9.octet 1 (by rw [hashN_len]; omega)]; rw [show cat [] = [] from rfl, hash_nil]; rfl
  have c31 : w9.cell? ⟨m, 31, none⟩ = some (.int .u8 112) := by
    rw [ha9.octet 31 (by rw [hashN_len]; omega)]; rw [show cat [] = [] from rfl, hash_nil]; rfl
  rw [show cat [⟨#[97]⟩, ⟨#[98, 99]⟩] = [97, 98, 99] from rfl] at hbb9
  have d0 : w9.cell? ⟨m5, 0, none⟩ = some (.int .u8 78) := by
    rw [hbb9.octet 0 (by rw [hashN_len]; omega), hash_abc.1]; rfl
  have d31 : w9.cell? ⟨m5, 31, none⟩ = some (.int .u8 69) := by
    rw [hbb9.octet 31 (by rw [hashN_len]; omega), hash_abc.2]; rfl
  obtain ⟨R, hR⟩ : ∃ R, R = hashN [97, 98, 99] := ⟨_, rfl⟩
  have hRl : R.length = 32 := by rw [hR]; exact hashN_len _
  rw [← hR] at hbb9 hcc
  have hiR := HI.out R hRl
  have heq : ∀ W : World, (Op.equalIn 10000 27 (.agg (octets R)) (.agg (octets R))).run Tryd.prog W = .ok true W := fun W => by
    rw [eqIn27 W R R hRl hRl]; simp
  have hlen := hg9.len
  have HLEN := Hd.mk hlen
  have HB9 := Hd.mk hbb9; have HC9 := Hd.mk hcc
  clear ha9 hR hRl hg9 hlen hbb9 hcc
  go_wp2_with (first
    | (refine BigFrame.wpList_want rfl (fun K hK => wp_load_row 27 _ rfl m5 rfl 27 (octets R) (0, 0) _ HB9.out.heap Tryd.underlying27 rfl hiR (hK _ _ ?_)))
    | (refine BigFrame.wpList_want rfl (fun K hK => wp_load_row 27 _ rfl m8 rfl 27 (octets R) (0, 0) _ HC9.out.heap Tryd.underlying27 rfl hiR (hK _ _ ?_)))
    | (go_at_call 18; refine HLEN.out.mono ?_; rintro e w10 ⟨rfl, rfl⟩))
  go_ret
  exact ⟨rfl, hb09⟩
end Go.Proofs.YtkinhfaehfldjaaDoor
