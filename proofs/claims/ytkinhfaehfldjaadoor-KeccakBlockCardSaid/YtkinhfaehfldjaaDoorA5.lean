/- The walks of keccak's hash object: New, Len, Reset, Write, Sum. -/
import Derived.Test.YtkinhfaehfldjaaDoorA4
import Derived.Deep.RegionHeld3
import Derived.WalkLawsBesides
namespace Go.Proofs.YtkinhfaehfldjaaDoor
open Go.RowKit

def hcells (L : List Nat) (a : Option Addr) (len c n : Nat) : Array Value := lanes L ++ #[.slice a len c, .int .i64 (n : Int)]
theorem hcells_size (L : List Nat) (a : Option Addr) (len c n : Nat) : (hcells L a len c n).size = L.length + 2 := by simp [hcells, lanes]
theorem hcells_lane {L : List Nat} (hL : L.length = 25) (a : Option Addr) (len c n i : Nat) (hi : i < 25) : (hcells L a len c n)[i]? = (lanes L)[i]? := by
  unfold hcells; rw [Array.getElem?_append_left (by rw [lanes_size]; omega)]
theorem hcells_25 {L : List Nat} (hL : L.length = 25) (a : Option Addr) (len c n : Nat) : (hcells L a len c n)[25]? = some (.slice a len c) := by
  unfold hcells; rw [Array.getElem?_append_right (by rw [lanes_size]; omega), lanes_size, hL]; rfl
theorem hcells_26 {L : List Nat} (hL : L.length = 25) (a : Option Addr) (len c n : Nat) : (hcells L a len c n)[26]? = some (.int .i64 (n : Int)) := by
  unfold hcells; rw [Array.getElem?_append_right (by rw [lanes_size]; omega), lanes_size, hL]; rfl
theorem hcells_ext {L : List Nat} (hL : L.length = 25) {a : Option Addr} {len c n : Nat} {cs : Array Value} (h0 : ∀ i, i < 25 → cs[i]? = (lanes L)[i]?)
    (h1 : cs[25]? = some (.slice a len c)) (h2 : cs[26]? = some (.int .i64 (n : Int))) (hs : cs.size = 27) : cs = hcells L a len c n := by
  refine Array.ext_getElem? fun i => ?_
  by_cases hi : i < 25
  · rw [h0 i hi, hcells_lane hL _ _ _ _ _ hi]
  · by_cases e1 : i = 25
    · subst e1; rw [h1, hcells_25 hL]
    · by_cases e2 : i = 26
      · subst e2; rw [h2, hcells_26 hL]
      · rw [Array.getElem?_eq_none (by omega), Array.getElem?_eq_none (by rw [hcells_size]; omega)]
theorem HB.set25 {W : World} {g : Nat} {L : List Nat} {a : Option Addr} {len c n : Nat} {t : TypeId} (h : HB W g (hcells L a len c n) t) (hL : L.length = 25) (a' : Option Addr) (len' c' : Nat) :
    HB (W.setCell ⟨g, 25, none⟩ (.slice a' len' c')) g (hcells L a' len' c' n) t := by
  have hh := h.set 25 (.slice a' len' c')
  have e : (hcells L a len c n).setIfInBounds 25 (.slice a' len' c') = hcells L a' len' c' n := by
    refine hcells_ext hL (fun i hi => ?_) ?_ ?_ (by simp [hcells_size, hL])
    · rw [Array.getElem?_setIfInBounds, if_neg (by omega), hcells_lane hL _ _ _ _ _ hi]
    · rw [Array.getElem?_setIfInBounds, if_pos rfl, if_pos (by rw [hcells_size]; omega)]
    · rw [Array.getElem?_setIfInBounds, if_neg (by omega), hcells_26 hL]
  rwa [e] at hh
theorem HB.set26 {W : World} {g : Nat} {L : List Nat} {a : Option Addr} {len c n : Nat} {t : TypeId} (h : HB W g (hcells L a len c n) t) (hL : L.length = 25) (n' : Nat) :
    HB (W.setCell ⟨g, 26, none⟩ (.int .i64 (n' : Int))) g (hcells L a len c n') t := by
  have hh := h.set 26 (.int .i64 (n' : Int))
  have e : (hcells L a len c n).setIfInBounds 26 (.int .i64 (n' : Int)) = hcells L a len c n' := by
    refine hcells_ext hL (fun i hi => ?_) ?_ ?_ (by simp [hcells_size, hL])
    · rw [Array.getElem?_setIfInBounds, if_neg (by omega), hcells_lane hL _ _ _ _ _ hi]
    · rw [Array.getElem?_setIfInBounds, if_neg (by omega), hcells_25 hL]
    · rw [Array.getElem?_setIfInBounds, if_pos rfl, if_pos (by rw [hcells_size]; omega)]
  rwa [e] at hh
theorem HB.setState {W : World} {g : Nat} {L : List Nat} {a : Option Addr} {len c n : Nat} {t : TypeId} (h : HB W g (hcells L a len c n) t) (hL : L.length = 25) {L' : List Nat} (hL' : L'.length = 25) :
    HB (W.setCells g 0 (lanes L').toList) g (hcells L' a len c n) t := by
  obtain ⟨cs', h1, h2, h3, h4⟩ := HB.many (lanes L').toList 0 W _ h (by simp [lanes, hL', hcells_size, hL])
  have hl : (lanes L').toList.length = 25 := by simp [lanes, hL']
  have e : cs' = hcells L' a len c n := by
    refine hcells_ext hL' (fun i hi => ?_) ?_ ?_ (by rw [h2, hcells_size]; omega)
    · have := h3 i (by omega)
      rw [Nat.zero_add] at this
      rw [this, Array.getElem?_toList]
    · rw [h4 25 (.inr (by omega)), hcells_25 hL]
    · rw [h4 26 (.inr (by omega)), hcells_26 hL]
  rwa [e] at h1
theorem HB.range {W : World} {g : Nat} {L : List Nat} {a : Option Addr} {len c n : Nat} {t : TypeId} (h : HB W g (hcells L a len c n) t) (hL : L.length = 25) : W.rangeAt g 0 (laneL L) := fun j v hv => by
  have hj : j < 25 := by have := (List.getElem?_eq_some_iff.1 hv).1; simpa [laneL, hL] using this
  rw [Nat.zero_add, h.cell, hcells_lane hL _ _ _ _ _ hj, ← hv]
  simp [lanes, laneL]

theorem HB.there {W : World} {g : Nat} {L : List Nat} {a : Option Addr} {len c n : Nat} {t : TypeId} (h : HB W g (hcells L a len c n) t) (hL : L.length = 25) {m : Nat} (hm : m ≤ 25) : W.there g 0 m := fun j hj =>
  ⟨by rw [Nat.zero_add, h.cell, Array.getElem?_eq_getElem (by rw [hcells_size]; omega)]; rfl, h.free _⟩
/-- the object at block g: the lanes, the bytes held back, the count -/
structure HashAt (W : World) (g r : Nat) (L xs : List Nat) (n : Nat) (a : Option Addr) (c : Nat) : Prop where
  hb : HB W g (hcells L a xs.length c n) 39
  len : L.length = 25
  rest : Rest W a c r g xs
  oct : ∀ i, i < xs.length → nth xs i < 256
  g3 : 3 ≤ g
  r3 : 3 ≤ r
theorem HashAt.frm {S : Nat → Prop} {W W' : World} {g r : Nat} {L xs : List Nat} {n : Nat} {a : Option Addr} {c : Nat} (h : HashAt W g r L xs n a c) (hf : Frm S W W') (hg : ¬ S g) (hr : ¬ S r) : HashAt W' g r L xs n a c :=
  ⟨hf.hb h.hb hg, h.len, h.rest.frm hf (fun _ => hr), h.oct, h.g3, h.r3⟩
theorem Vars.frm {S : Nat → Prop} {w w' : World} (h : Vars w) (hf : Frm S w w') (hS : ∀ k, S k → 3 ≤ k) : Vars w' :=
  ⟨h.c.imp fun _ y => hf.hb y (fun x => absurd (hS _ x) (by omega)), h.t.imp fun _ y => hf.hb y (fun x => absurd (hS _ x) (by omega)), h.p.imp fun _ y => hf.hb y (fun x => absurd (hS _ x) (by omega))⟩

theorem new_any (w : World) (hn : 3 ≤ w.heap.size) :
    Calls Tryd.prog 15 #[] w fun e w' => e = .returned (.pointer (some ⟨w.heap.size, 0, none⟩)) ∧ HashAt w' w.heap.size w.heap.size (zeros 25) [] 0 none 0 ∧ Below w.heap.size w w' := by
  go_enter Tryd.func15, Tryd.ntmps15
  go_wp2
  go_ret
  refine ⟨rfl, ⟨HB.new w _ _, rfl, .inl ⟨rfl, rfl, rfl, rfl⟩, fun i hi => by simp at hi, hn, hn⟩, (Below.refl _ _).alloc (Nat.le_refl _) _⟩
theorem len_any (w : World) (g r : Nat) (L xs : List Nat) (n : Nat) (a : Option Addr) (c : Nat) (h : HashAt w g r L xs n a c) :
    Calls Tryd.prog 18 #[.pointer (some ⟨g, 0, none⟩)] w fun e w' => e = .returned (.int .i64 (n : Int)) ∧ w' = w := by
  have hc := h.hb.cell 26
  rw [hcells_26 h.len] at hc
  go_enter Tryd.func18, Tryd.ntmps18
  go_wp2
  go_ret
  exact ⟨rfl, rfl⟩
theorem len_nil (w : World) : Calls Tryd.prog 18 #[.pointer none] w fun e w' => e = .returned (.int .i64 0) ∧ w' = w := by
  go_enter Tryd.func18, Tryd.ntmps18
  go_wp2
  go_ret
  exact ⟨rfl, rfl⟩
theorem reset_nil (w : World) : Calls Tryd.prog 19 #[.pointer none] w fun e w' => e = .returned (.tuple #[]) ∧ w' = w := by
  go_enter Tryd.func19, Tryd.ntmps19
  go_wp2
  go_end0
  exact ⟨rfl, rfl⟩
theorem write_nil (w : World) (s : ByteArray) : Calls Tryd.prog 16 #[.pointer none, .string s] w fun e w' => e = .returned (.int .i64 0) ∧ w' = w := by
  go_enter Tryd.func16, Tryd.ntmps16
  go_wp2
  go_ret
  exact ⟨rfl, rfl⟩
theorem reset_any (w : World) (g r : Nat) (L xs : List Nat) (n : Nat) (a : Option Addr) (c : Nat) (h : HashAt w g r L xs n a c) :
    Calls Tryd.prog 19 #[.pointer (some ⟨g, 0, none⟩)] w fun e w' => e = .returned (.tuple #[]) ∧ HashAt w' g g (zeros 25) [] 0 none 0 ∧ Frm (fun k => k = g) w w' := by
  have hc := h.hb
  have hl := h.len
  go_enter Tryd.func19, Tryd.ntmps19
  go_wp2_with (refine wpList_store_row rfl 39 _ _ rfl g (hcells (zeros 25) none 0 0 0) rfl rfl 39 _ hc.heap (by kernel_rfl) (by rw [hcells_size, hl]; rfl) (by kernel_rfl) ?_)
  go_end0
  refine ⟨rfl, ⟨hc.row _, rfl, .inl ⟨rfl, rfl, rfl, rfl⟩, fun i hi => by simp at hi, h.g3, h.g3⟩, ⟨rfl, rfl, rfl, by simp, fun k _ hk => setRow_other w g k _ hk⟩⟩
end Go.Proofs.YtkinhfaehfldjaaDoor
