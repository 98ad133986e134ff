import Derived.Test.YthnfkjcndidoaaaGreatDoorCColl
import Derived.Shelf.SlSortCmp.WholeK
import Derived.Shelf.SlSortCmp.NoneTotal
set_option linter.unusedVariables false
set_option linter.unusedSimpArgs false
namespace Go.Proofs.YthnfkjcndidoaaaGreatDoor
open Go.RowKit Go.Shelf Go.Sort

/-! ### slices.SortFunc of lines -/
/-- A step that only draws and lays new blocks. -/
def Onw (w w' : World) : Prop := ∃ q os, w' = grow (w.drewN q) os
theorem Onw.refl (w : World) : Onw w w := ⟨0, #[], by rw [grow_empty]; rfl⟩
theorem Onw.alloc (w : World) (o : Obj) : Onw w (w.alloc o) := ⟨0, #[o], by rw [alloc_eq_grow]; rfl⟩
theorem Onw.drew (w : World) : Onw w w.drew := ⟨1, #[], by rw [grow_empty]; rfl⟩
theorem Onw.trans {a b c : World} (h : Onw a b) (k : Onw b c) : Onw a c := by
  obtain ⟨q, os, rfl⟩ := h
  obtain ⟨q', os', rfl⟩ := k
  refine ⟨q + q', os ++ os', ?_⟩
  rw [show (grow (a.drewN q) os).drewN q' = grow ((a.drewN q).drewN q') os from rfl, grow_grow]
  congr 1
  simp [World.drewN, Nat.add_assoc]
set_option maxRecDepth 100000 in
theorem cmpLineE (w : World) (a b : LId) : Calls Tryz.prog 64 #[.agg #[.int .u32 a.p, .int .i64 a.n], .agg #[.int .u32 b.p, .int .i64 b.n]] w fun e w' => e = .returned (.int .i64 (cmpL a b)) ∧ Onw w w' := by
  go_enter Tryz.func64, Tryz.ntmps64
  go_wp2_with fail
  go_region_held3 (fun w' => w'.cell? ⟨w.heap.size, 0, none⟩ = some (.int .u32 a.p) ∧ w'.cell? ⟨w.heap.size, 1, none⟩ = some (.int .i64 a.n) ∧ w'.cell? ⟨w.heap.size + 1, 0, none⟩ = some (.int .u32 b.p) ∧ w'.cell? ⟨w.heap.size + 1, 1, none⟩ = some (.int .i64 b.n))
    (go_keep)
    (first | (go_at_call 99; refine (cmpU32 _ _ _).mono ?_; rintro e w' ⟨rfl, rfl⟩) | (go_at_call 100; refine (cmpInt _ _ _).mono ?_; rintro e w' ⟨rfl, rfl⟩) | (go_at_call 98; refine (or2 (x := cmpI a.p b.p) (y := cmpI a.n b.n) (by go_simp) (by go_simp)).mono ?_; rintro e w' ⟨rfl, rfl⟩))
  go_wp2
  go_ret
  exact ⟨rfl, (((Onw.alloc _ _).trans (Onw.alloc _ _)).trans (Onw.alloc _ _)).trans (Onw.drew _)⟩
theorem enters_file1 : Enters Tryz.prog 63 := enters_of Tryz.func63 (by kernel_rfl) rfl
theorem file1 (w : World) (x y : Ln) : Calls Tryz.prog 63 #[.agg #[.int .u32 x.id.p, .int .i64 x.id.n, .string x.text, .bool x.dead], .agg #[.int .u32 y.id.p, .int .i64 y.id.n, .string y.text, .bool y.dead]] w fun e w' => e = .returned (.int .i64 (cmpL x.id y.id)) ∧ Onw w w' := by
  go_enter Tryz.func63, Tryz.ntmps63
  go_wp2_with (go_at_call 64; refine (cmpLineE _ _ _).mono ?_; rintro e w' ⟨rfl, ho⟩)
  go_ret
  exact ⟨rfl, ((Onw.alloc _ _).trans (Onw.alloc _ _)).trans ho⟩
instance : Inhabited Ln := ⟨⟨⟨0, 0⟩, ⟨#[]⟩, false⟩⟩
def cmpLn (x y : Ln) : Int := cmpL x.id y.id
theorem file1_lays (blk off size : Nat) (w : World) : CmpLays Tryz.prog 63 #[] lnCell 4 cmpLn blk off size w := fun m os dk hs x y => file1 _ x y
theorem flat_get {α : Type} (enc : α → List Value) (k : Nat) (h0 : 0 < k) (hk : ∀ x, (enc x).length = k) : ∀ (xs : List α) (t : Nat), (xs.flatMap enc)[t]? = (xs[t / k]?).bind fun x => (enc x)[t % k]?
  | [], t => by simp
  | x :: r, t => by
    rw [List.flatMap_cons]
    by_cases ht : t < k
    · rw [List.getElem?_append_left (by rw [hk]; exact ht), Nat.div_eq_of_lt ht, Nat.mod_eq_of_lt ht]
      simp
    · rw [List.getElem?_append_right (by rw [hk]; omega), hk, flat_get enc k h0 hk r (t - k)]
      have e1 : t / k = (t - k) / k + 1 := by
        conv => lhs; rw [show t = (t - k) + k by omega]
        rw [Nat.add_div_right _ h0]
      have e2 : t % k = (t - k) % k := by
        conv => lhs; rw [show t = (t - k) + k by omega]
        rw [Nat.add_mod_right]
      rw [e1, e2, List.getElem?_cons_succ]
theorem flatK_list {α : Type} [Inhabited α] (enc : α → List Value) (k : Nat) (h0 : 0 < k) (hk : ∀ x, (enc x).length = k) (d : Array α) : (flatK enc k d).toList = d.toList.flatMap enc := by
  apply List.ext_getElem?
  intro t
  rw [flat_get enc k h0 hk]
  by_cases ht : t < d.size * k
  · have hd : t / k < d.size := by rw [Nat.div_lt_iff_lt_mul h0]; exact ht
    have hm : t % k < (enc d[t / k]).length := by rw [hk]; exact Nat.mod_lt _ h0
    rw [List.getElem?_eq_getElem (by simpa using ht), List.getElem?_eq_getElem (by simpa using hd)]
    have hg := get_flatK enc k d t ht
    rw [getElem!_pos (flatK enc k d) t (by simpa using ht), getElem!_pos d (t / k) hd, getElem!_pos (enc d[t / k]) (t % k) hm] at hg
    simp only [Array.getElem_toList, Option.bind_some]
    rw [List.getElem?_eq_getElem hm, hg]
  · rw [List.getElem?_eq_none (by simp; omega), List.getElem?_eq_none (l := d.toList) (i := t / k) (by rw [Nat.le_div_iff_mul_le h0]; simp; omega)]
    rfl
theorem lnCell_len (x : Ln) : (lnCell x).length = 4 := rfl
theorem lnCells_len (l : List Ln) : (lnCells l).length = l.length * 4 := by
  induction l with
  | nil => rfl
  | cons x r ih => simp only [lnCells, List.flatMap_cons, List.length_append, List.length_cons, lnCell_len] at ih ⊢; omega
/-- A slice of lines of one's own. -/
def OwnLn (w : World) (base : Nat) (v : Value) (xs : List Ln) : Prop := w.ownsRow base 47 4 v xs.length (lnCells xs)
theorem OwnLn.cases {w : World} {base : Nat} {v : Value} {xs : List Ln} (h : OwnLn w base v xs) : (v = .slice none 0 0 ∧ xs = []) ∨
    ∃ g cap cur, v = .slice (some ⟨g, 0, none⟩) xs.length cap ∧ base ≤ g ∧ g < w.heap.size ∧ w.heap[g]? = some (.cells cur 47 (0, 0)) ∧ xs.length ≤ cap ∧ cap ≤ maxLen ∧ cur.size = cap * 4 ∧ cur.toList.take (xs.length * 4) = lnCells xs := by
  rcases h.2 with ⟨rfl, h2⟩ | ⟨g, cap, cur, rfl, hb, hh, h1, h2, h3, h4⟩
  · exact .inl ⟨rfl, List.length_eq_zero_iff.1 h2⟩
  · exact .inr ⟨g, cap, cur, rfl, hb, (Array.getElem?_eq_some_iff.1 hh).1, hh, h1, h2, h3, h4⟩
theorem putCells_take (F cur : Array Value) (h : F.size ≤ cur.size) : (putCells id 0 F cur).toList.take F.size = F.toList := by
  apply List.ext_getElem?
  intro i
  by_cases hi : i < F.size
  · rw [List.getElem?_take_of_lt hi]
    have : i < cur.size := by omega
    simp [putCells, this, hi]
  · rw [List.getElem?_eq_none (by simp; omega), List.getElem?_eq_none (by simp; omega)]
theorem grow_heap {w : World} {os : Array Obj} {i : Nat} {o : Obj} (h : w.heap[i]? = some o) : (grow w os).heap[i]? = some o := by
  have := (Array.getElem?_eq_some_iff.1 h).1
  show (w.heap ++ os)[i]? = _
  rw [Array.getElem?_append_left this]
  exact h
theorem cmpL_lt (a b : LId) : cmpL a b < 0 ↔ a.p < b.p ∨ (a.p = b.p ∧ a.n < b.n) := by
  simp only [cmpL, orI]
  have h1 := cmpI_neg (a.p : Int) (b.p : Int)
  have h2 := cmpI_neg a.n b.n
  by_cases h0 : cmpI (a.p : Int) (b.p : Int) = 0
  · have he : (a.p : Int) = b.p := by
      unfold cmpI at h0
      split at h0
      · cases h0
      · split at h0
        · cases h0
        · omega
    rw [if_pos h0, h2]; omega
  · rw [if_neg h0, h1]
    constructor
    · intro h; exact .inl (by omega)
    · rintro (h | ⟨h, _⟩)
      · omega
      · exact (h0 (by rw [h]; simp [cmpI])).elim
theorem swoLn : SWO (ltOf cmpLn) := by
  refine ⟨fun x => ?_, fun x y z => ?_, fun x y z => ?_⟩ <;> simp only [ltOf, cmpLn, decide_eq_true_eq, decide_eq_false_iff_not, cmpL_lt] <;> omega
/-- slices.SortFunc of an own row of lines. -/
theorem sortLn {ρ : Ren} (L : SlLaysF0.n6 Tryz.prog ρ) (hf : ρ.f 6 = 62) (ht : ρ.t 24 = 47) {w : World} {base : Nat} {v : Value} {xs : List Ln} (h : OwnLn w base v xs) (hl : xs.length < 4611686018427387904) :
    Calls Tryz.prog 62 #[v, .func (.func 63) #[] #[]] w fun e w' => e = .returned (.tuple #[]) ∧ ∃ ys : List Ln, OwnLn w' base v ys ∧ ys.Perm xs ∧ ys.Pairwise (fun x y => ¬ cmpL y.id x.id < 0) ∧ Fr (OwnO v) w w' := by
  rcases h.cases with ⟨rfl, rfl⟩ | ⟨g, cap, cur, rfl, hbg, hg, hh, h1, h2, h3, h4⟩
  · have := AnyF.slices_SortFunc_none { L with } none 0 (.func (.func 63) #[] #[]) w
    rw [hf] at this
    exact this.mono fun _ _ ⟨h1, h2⟩ => ⟨h1, [], by rw [h2]; exact h, List.Perm.refl _, List.Pairwise.nil, by rw [h2]; exact Fr.refl _ _⟩
  · have hsz : xs.toArray.size = xs.length := by simp
    have hflat : (flatK lnCell 4 xs.toArray).toList = lnCells xs := flatK_list lnCell 4 (by decide) lnCell_len _
    have hH : HoldsK lnCell 4 w g 0 xs.toArray := fun j hj => by
      have hj' : j < xs.length * 4 := by simpa using hj
      refine ⟨?_, frozen_of_heap hh _⟩
      rw [cell_of_heap hh, Nat.zero_add, getElem!_pos _ j hj]
      have h5 : (cur.toList.take (xs.length * 4))[j]? = (lnCells xs)[j]? := by rw [h4]
      rw [List.getElem?_take_of_lt hj', Array.getElem?_toList, ← hflat, Array.getElem?_toList, Array.getElem?_eq_getElem hj] at h5
      exact h5
    have hcon := AnyQ.slices_SortFunc L 4 (fun w => by rw [ht]; kernel_rfl) (fun w => by rw [ht]; kernel_rfl) lnCell lnCell_len (fun x v hv => by simp only [lnCell, List.mem_cons, List.not_mem_nil, or_false] at hv; rcases hv with rfl | rfl | rfl | rfl <;> rfl)
      cmpLn swoLn 63 #[] g 0 cap xs.toArray w enters_file1 (file1_lays _ _ _ _) hH hg (by simpa using hl)
    rw [hsz, hf] at hcon
    refine hcon.mono ?_
    rintro e w' ⟨rfl, d', n, os, hp, hS, rfl⟩
    have hd : d'.size = xs.length := by simpa using hp.1
    have hflat' : (flatK lnCell 4 d').toList = lnCells d'.toList := flatK_list lnCell 4 (by decide) lnCell_len _
    refine ⟨rfl, d'.toList, ?_, ?_, ?_, ?_⟩
    · unfold OwnLn
      refine ⟨by rw [lnCells_len], .inr ⟨g, cap, putCells id 0 (flatK lnCell 4 d') cur, by simp [hd], hbg, grow_heap ?_, by simp [hd]; omega, h2, by simp [putCells, h3], ?_⟩⟩
      · show (putRow id (Sort.ahead w n) g 0 (flatK lnCell 4 d')).heap[g]? = _
        simp [putRow, mapBlock, Sort.ahead, Array.getElem?_modify, hh, onCells]
      · have := putCells_take (flatK lnCell 4 d') cur (by rw [size_flatK, hd, h3]; omega)
        rw [size_flatK, hflat'] at this
        simpa using this
    · have := hp.2.2
      have e1 : (d'.extract 0 xs.length).toList = d'.toList := by simp; rw [List.take_of_length_le (by simp [hd])]
      rw [e1] at this
      simpa using this
    · rw [List.pairwise_iff_getElem]
      intro i j hi hj hij
      have := hS i j (Nat.zero_le _) hij (by simp at hj; omega)
      rw [getElem!_pos d' j (by simpa using hj), getElem!_pos d' i (by simpa using hi)] at this
      have this := of_decide_eq_false (show decide (cmpL d'[j].id d'[i].id < 0) = false from this)
      simpa using this
    · refine ⟨rfl, rfl, rfl, by simp [sortWorldK, grow, putRowK, putRow, mapBlock, Sort.ahead], fun i hi hn => ?_⟩
      show ((putRow id (Sort.ahead w n) g 0 (flatK lnCell 4 d')).heap ++ os)[i]? = _
      rw [Array.getElem?_append_left (by simp [putRow, mapBlock, Sort.ahead]; exact hi)]
      simp only [putRow, mapBlock, Sort.ahead, Array.getElem?_modify]
      rw [if_neg (fun e => hn (ownO_slice.2 e))]
end Go.Proofs.YthnfkjcndidoaaaGreatDoor
