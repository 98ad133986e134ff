import Derived.Test.YthnfkjcndidoaaaGreatDoorCSortJ
set_option linter.unusedVariables false
set_option linter.unusedSimpArgs false
namespace Go.Proofs.YthnfkjcndidoaaaGreatDoor
open Go.RowKit Go.Shelf Go.Sort Go.Lib
/-- A slice of whole numbers of one's own. -/
def OwnU (w : World) (base : Nat) (v : Value) (xs : List Nat) : Prop := w.ownsRow base 43 1 v xs.length (xs.map encU)
theorem OwnU.cases {w : World} {base : Nat} {v : Value} {xs : List Nat} (h : OwnU w base v xs) : (v = .slice none 0 0 ∧ xs = []) ∨
    ∃ g cap cur, v = .slice (some ⟨g, 0, none⟩) xs.length cap ∧ base ≤ g ∧ g < w.heap.size ∧ w.heap[g]? = some (.cells cur 43 (0, 0)) ∧ xs.length ≤ cap ∧ cap ≤ maxLen ∧ cur.size = cap ∧ cur.toList.take xs.length = xs.map encU := by
  rcases h.2 with ⟨rfl, h2⟩ | ⟨g, cap, cur, rfl, hb, hh, h1, h2, h3, h4⟩
  · exact .inl ⟨rfl, List.length_eq_zero_iff.1 h2⟩
  · exact .inr ⟨g, cap, cur, rfl, hb, (Array.getElem?_eq_some_iff.1 hh).1, hh, h1, h2, by omega, by simpa using h4⟩
theorem own_holds {w : World} {g : Nat} {cur : Array Value} {xs : List Nat} (hh : w.heap[g]? = some (.cells cur 43 (0, 0))) (h4 : cur.toList.take xs.length = xs.map encU) : Holds encU w g 0 xs.toArray := fun j hj => by
  have hj' : j < xs.length := by simpa using hj
  refine ⟨?_, frozen_of_heap hh _⟩
  rw [cell_of_heap hh, Nat.zero_add]
  have h5 : (cur.toList.take xs.length)[j]? = some (encU xs[j]) := by rw [h4]; simp [hj']
  rw [List.getElem?_take_of_lt hj', Array.getElem?_toList] at h5
  rw [h5, getElem!_pos _ j hj]
  simp
/-- The row holds d now: what is owned. -/
theorem own_put {w : World} {g base cap : Nat} {cur : Array Value} {d : Array Nat} {n : Nat} (hh : w.heap[g]? = some (.cells (putCells encU 0 d cur) 43 (0, 0))) (hb : base ≤ g) (hc : cap ≤ maxLen) (hs : cur.size = cap) (hd : d.size ≤ cap) (hn : n ≤ d.size) :
    OwnU w base (.slice (some ⟨g, 0, none⟩) n cap) (d.toList.take n) := by
  have hl : (d.toList.take n).length = n := by simp; omega
  unfold OwnU
  rw [hl]
  refine ⟨by simp; omega, .inr ⟨g, cap, _, rfl, hb, hh, by omega, hc, by simp [putCells, hs], ?_⟩⟩
  apply List.ext_getElem?
  intro i
  by_cases hi : i < n
  · rw [List.getElem?_take_of_lt (by omega)]
    have : i < cur.size := by omega
    simp [putCells, this, hi, show i < d.size by omega, List.getElem?_take_of_lt hi]
  · rw [List.getElem?_eq_none (by simp; omega), List.getElem?_eq_none (by simp; omega)]
theorem needs1g (b id x : Nat) (W : World) (hc : W.cell? ⟨b, 0, none⟩ = some (.int .u32 id)) : FnGives Tryz.prog 154 #[.pointer (some ⟨b, 0, none⟩)] #[encU x] (.bool (decide (x = id))) W := by
  show Calls Tryz.prog 154 #[.int .u32 x, .pointer (some ⟨b, 0, none⟩)] W _
  go_enter Tryz.func154, Tryz.ntmps154
  go_wp2
  go_ret
  exact ⟨by rw [← nat_eq]; rfl, 0, rfl⟩
theorem putRow_heap {w : World} {g o : Nat} {d : Array Nat} {cur : Array Value} (hh : w.heap[g]? = some (.cells cur 43 (0, 0))) : (putRow encU w g o d).heap[g]? = some (.cells (putCells encU o d cur) 43 (0, 0)) := by
  simp [putRow, mapBlock, Array.getElem?_modify, hh, onCells]
theorem fr_putRow (w : World) (g o q : Nat) (d : Array Nat) : Fr (One g) w (putRow encU (Sort.ahead w q) g o d) := by
  refine ⟨rfl, rfl, rfl, by simp [Sort.ahead], fun i hi hn => ?_⟩
  simp only [putRow, mapBlock, Sort.ahead, Array.getElem?_modify]
  rw [if_neg (fun e => hn e.symm)]
theorem delU {w : World} {base : Nat} {v : Value} {xs : List Nat} (h : OwnU w base v xs) (b id : Nat) (hb : b < w.heap.size) (hc : w.cell? ⟨b, 0, none⟩ = some (.int .u32 id)) (hn : ¬ OwnO v b) :
    Calls Tryz.prog 153 #[v, .func (.func 154) #[] #[.pointer (some ⟨b, 0, none⟩)]] w fun e w' => ∃ v', e = .returned v' ∧ OwnU w' base v' (xs.filter fun x => !decide (x = id)) ∧ Fr (OwnO v) w w' ∧ (∀ i, OwnO v' i → OwnO v i) := by
  rcases h.cases with ⟨rfl, rfl⟩ | ⟨g, cap, cur, rfl, hbg, hg, hh, h1, h2, h3, h4⟩
  · have hr := seekU32 (w := w) (A := none) (c := 0) (l := []) (slNil _ _) enters_needs1 (caps := #[.pointer (some ⟨b, 0, none⟩)]) (fun x => decide (x = id)) (fun x W hf => (needs1g b id x W (hf.cell (p := ⟨b, 0, none⟩) (fun e => e) hc)).mono (fun _ _ ⟨h1, q, h2⟩ => ⟨h1, by rw [h2]; exact Fr.drewN _ _ _⟩))
    have HR := Lib.hid hr
    clear hr h
    go_enter Tryz.func153, Tryz.ntmps153
    go_wp2_with (go_at_call 74; refine HR.out.mono ?_; rintro e w1 ⟨rfl, hf1⟩)
    go_ret
    exact ⟨_, rfl, World.ownsRow_nil _ _ _ _, hf1.of_no, fun i h => h⟩
  · have hne : b ≠ g := fun e => hn (ownO_slice.2 e.symm)
    have hs : xs.toArray.size = xs.length := by simp
    have hcon := Tryz.slices_DeleteFunc encU (fun _ => rfl) (fun x => decide (x = id)) 154 #[.pointer (some ⟨b, 0, none⟩)] enters_needs1 0 Tryz.zeroValue43 g 0 cap xs.toArray w
      (fun W x hB => needs1g b id x W ((hB.cell (p := ⟨b, 0, none⟩) hb).trans hc))
      (fun n os dk x _ => needs1g b id x _ (by
        unfold sortWorld
        rw [cell?_grow _ _ _ (by show b < (putRow _ _ _ _ _).heap.size; rw [size_putRow]; exact hb), cell?_putRow_other _ _ g 0 _ _ (Or.inl hne)]
        exact hc))
      (own_holds hh h4) (by simp [maxLen] at h2 ⊢; omega) (by simp; omega)
    rw [hs] at hcon
    refine hcon.mono ?_
    rintro e w' ⟨rfl, q, rfl⟩
    have hl : (xs.filter fun x => !decide (x = id)).length ≤ xs.length := List.length_filter_le _ _
    refine ⟨_, rfl, ?_, (fr_putRow w g 0 q _).mono (fun i _ e => ownO_slice.2 (show g = i from (show i = g from e).symm)), fun i hi => ownO_slice.2 (ownO_slice.1 hi)⟩
    have := own_put (w := putRow encU (Sort.ahead w q) g 0 ((xs.filter fun x => !decide (x = id)) ++ List.replicate (xs.length - (xs.filter fun x => !decide (x = id)).length) 0).toArray) (g := g) (base := base) (cap := cap) (cur := cur)
      (d := ((xs.filter fun x => !decide (x = id)) ++ List.replicate (xs.length - (xs.filter fun x => !decide (x = id)).length) 0).toArray) (n := (xs.filter fun x => !decide (x = id)).length) (putRow_heap (w := Sort.ahead w q) hh) hbg h2 h3 (by simp; omega) (by simp)
    simpa using this
theorem own_nonneg (xs : List Nat) : xs.length = xs.toArray.size := by simp
/-- slices.Sort of an own row. -/
theorem sortOwn {w : World} {base : Nat} {v : Value} {xs : List Nat} (h : OwnU w base v xs) (hl : xs.length < 4611686018427387904) :
    Calls Tryz.prog 155 #[v] w fun e w' => e = .returned (.tuple #[]) ∧ ∃ ys : List Nat, OwnU w' base v ys ∧ ys.Perm xs ∧ ys.Pairwise (· ≤ ·) ∧ Fr (OwnO v) w w' := by
  rcases h.cases with ⟨rfl, rfl⟩ | ⟨g, cap, cur, rfl, hbg, hg, hh, h1, h2, h3, h4⟩
  · exact (sortU_none w).mono (fun _ _ ⟨h1, h2⟩ => ⟨h1, [], by rw [h2]; exact h, List.Perm.refl _, List.Pairwise.nil, by rw [h2]; exact Fr.refl _ _⟩)
  · have hs : xs.toArray.size = xs.length := by simp
    have hcon := sortU g 0 cap xs.toArray w (own_holds hh h4) hg (by simpa using hl)
    rw [hs] at hcon
    refine hcon.mono ?_
    rintro e w' ⟨rfl, d', hw, hd, hp, hS⟩
    refine ⟨rfl, d'.toList, ?_, by simpa using hp, hS, hw.fr.mono (fun i _ e => ownO_slice.2 (show g = i from (show i = g from e).symm))⟩
    have := own_put (w := w') (g := g) (base := base) (cap := cap) (cur := cur) (d := d') (n := xs.length) (by rw [hw.row, putRow_heap hh]) hbg h2 h3 (by omega) (by omega)
    rwa [List.take_of_length_le (by simp [hd])] at this
end Go.Proofs.YthnfkjcndidoaaaGreatDoor
