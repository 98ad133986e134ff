import Derived.Test.YthnfkjcndidoaaaGreatDoorCFile
import Derived.Test.YthnfkjcndidoaaaGreatDoorCTrack
import Derived.Test.YthnfkjcndidoaaaGreatDoorCRight
set_option linter.unusedVariables false
set_option linter.unusedSimpArgs false
namespace Go.Proofs.YthnfkjcndidoaaaGreatDoor
open Go.RowKit Go.Shelf

/-! ### what patches make, in plain words -/
theorem strLt_irrefl (x : ByteArray) : strLt x x = false := bl_irrefl _
theorem strLt_asymm {x y : ByteArray} (h : strLt x y = true) : strLt y x = false := bl_asymm _ _ h
theorem strLt_tri {x y : ByteArray} (h : strLt x y = false) (hne : x ≠ y) : strLt y x = true := bl_tri _ _ h (fun e => hne (bytes_ext e))
theorem strLt_trans {x y z : ByteArray} (h : strLt x y = true) (k : strLt y z = true) : strLt x z = true := by
  rw [strLt_iff] at *
  exact List.lt_trans h k
/-- Two rising rows with the same members are one. -/
theorem rising_ext {a b : List ByteArray} (ha : a.Pairwise (fun x y => strLt x y = true)) (hb : b.Pairwise (fun x y => strLt x y = true)) (h : ∀ x, x ∈ a ↔ x ∈ b) : a = b := by
  have na : a.Nodup := ha.imp fun {x y} h e => by subst e; rw [strLt_irrefl] at h; cases h
  have nb : b.Nodup := hb.imp fun {x y} h e => by subst e; rw [strLt_irrefl] at h; cases h
  refine List.Perm.eq_of_pairwise (le := fun x y => strLt x y = true) (fun x y _ _ h1 h2 => ?_) ha hb ((List.perm_ext_iff_of_nodup na nb).2 h)
  rw [strLt_asymm h1] at h2
  cases h2
def insStr (s : ByteArray) : List ByteArray → List ByteArray
  | [] => [s]
  | x :: r => if strLt x s then x :: insStr s r else if x = s then x :: r else s :: x :: r
theorem mem_insStr {s y : ByteArray} : ∀ {l : List ByteArray}, y ∈ insStr s l ↔ y = s ∨ y ∈ l
  | [] => by simp [insStr]
  | x :: r => by
    unfold insStr
    split
    · rw [List.mem_cons, mem_insStr (l := r), List.mem_cons]
      constructor
      · rintro (h | h | h) <;> simp [h]
      · rintro (h | h | h) <;> simp [h]
    · split
      · rename_i h
        subst h
        simp
      · simp
theorem rising_insStr {s : ByteArray} : ∀ {l : List ByteArray}, l.Pairwise (fun x y => strLt x y = true) → (insStr s l).Pairwise (fun x y => strLt x y = true)
  | [], _ => by simp [insStr]
  | x :: r, h => by
    obtain ⟨h1, h2⟩ := List.pairwise_cons.1 h
    unfold insStr
    split
    · rename_i hx
      refine List.pairwise_cons.2 ⟨fun y hy => ?_, rising_insStr h2⟩
      rcases mem_insStr.1 hy with rfl | hy
      · exact hx
      · exact h1 y hy
    · split
      · exact h
      · rename_i hx hne
        have hsx := strLt_tri (by simpa using hx) hne
        refine List.pairwise_cons.2 ⟨fun y hy => ?_, h⟩
        rcases List.mem_cons.1 hy with rfl | hy
        · exact hsx
        · exact strLt_trans hsx (h1 y hy)
/-- The paths that are there. -/
def trackedL (l : List Pt) : List ByteArray := ((l.flatMap (·.makes)).filter fun s => !droppedB l s).foldr insStr []
theorem rising_fold : ∀ (l : List ByteArray), (l.foldr insStr []).Pairwise (fun x y => strLt x y = true)
  | [] => by simp
  | x :: r => by rw [List.foldr_cons]; exact rising_insStr (rising_fold r)
theorem mem_fold {y : ByteArray} : ∀ {l : List ByteArray}, y ∈ l.foldr insStr [] ↔ y ∈ l
  | [] => by simp
  | x :: r => by rw [List.foldr_cons, mem_insStr, mem_fold (l := r), List.mem_cons]
theorem tracked_rising (l : List Pt) : (trackedL l).Pairwise (fun x y => strLt x y = true) := rising_fold _
theorem tracked_nodup (l : List Pt) : (trackedL l).Nodup := (tracked_rising l).imp fun {x y} h e => by subst e; rw [strLt_irrefl] at h; cases h
theorem mem_tracked {l : List Pt} {s : ByteArray} : s ∈ trackedL l ↔ (madeB l s && !droppedB l s) = true := by
  unfold trackedL
  rw [mem_fold, List.mem_filter, List.mem_flatMap, Bool.and_eq_true]
  simp [madeB]
theorem tracked_is {l : List Pt} {us : List ByteArray} (h : us.Perm (trackedL l)) (hs : us.Pairwise (fun x y => strLt x y = true)) : us = trackedL l :=
  rising_ext hs (tracked_rising l) (fun x => h.mem_iff)

/-- A path's lines, rising. -/
def linesOf (l : List Pt) (path : ByteArray) : List Ln := (addedL l path).mergeSort fun a b => decide (0 ≤ cmpL b.id a.id)
theorem cmpL_le_trans {a b c : LId} (h : 0 ≤ cmpL b a) (k : 0 ≤ cmpL c b) : 0 ≤ cmpL c a := by
  have h1 := cmpL_lt b a
  have h2 := cmpL_lt c b
  have h3 := cmpL_lt c a
  by_cases h4 : cmpL c a < 0
  · rw [h3] at h4
    have : ¬ (b.p < a.p ∨ b.p = a.p ∧ b.n < a.n) := fun e => by have := h1.2 e; omega
    have : ¬ (c.p < b.p ∨ c.p = b.p ∧ c.n < b.n) := fun e => by have := h2.2 e; omega
    omega
  · omega
theorem cmpL_total (a b : LId) : 0 ≤ cmpL b a ∨ 0 ≤ cmpL a b := by
  have h1 := cmpL_lt b a
  have h2 := cmpL_lt a b
  by_cases h3 : cmpL b a < 0
  · right
    have := h1.1 h3
    by_cases h4 : cmpL a b < 0
    · have := h2.1 h4; omega
    · omega
  · left; omega
theorem cmpL_antisymm {a b : LId} (h : 0 ≤ cmpL b a) (k : 0 ≤ cmpL a b) : a = b := by
  have h1 : ¬ (b.p < a.p ∨ b.p = a.p ∧ b.n < a.n) := fun e => by have := (cmpL_lt b a).2 e; omega
  have h2 : ¬ (a.p < b.p ∨ a.p = b.p ∧ a.n < b.n) := fun e => by have := (cmpL_lt a b).2 e; omega
  cases a; cases b
  simp only [LId.mk.injEq] at *
  omega
theorem id_inj {l : List Ln} (h : (l.map (·.id)).Nodup) {x y : Ln} (hx : x ∈ l) (hy : y ∈ l) (e : x.id = y.id) : x = y := by
  obtain ⟨i, hi, rfl⟩ := List.getElem_of_mem hx
  obtain ⟨j, hj, rfl⟩ := List.getElem_of_mem hy
  rcases Nat.lt_trichotomy i j with h1 | h1 | h1
  · have := List.pairwise_iff_getElem.1 h i j (by simpa using hi) (by simpa using hj) h1
    simp at this
    exact (this e).elim
  · subst h1; rfl
  · have := List.pairwise_iff_getElem.1 h j i (by simpa using hj) (by simpa using hi) h1
    simp at this
    exact (this e.symm).elim
/-- Rows of lines, rising, that are permutations of each other are one. -/
theorem lines_ext {a b : List Ln} (hp : a.Perm b) (hnd : (a.map (·.id)).Nodup) (ha : a.Pairwise (fun x y => 0 ≤ cmpL y.id x.id)) (hb : b.Pairwise (fun x y => 0 ≤ cmpL y.id x.id)) : a = b :=
  List.Perm.eq_of_pairwise (le := fun x y => 0 ≤ cmpL y.id x.id) (fun x y hx hy h1 h2 => id_inj hnd hx (hp.mem_iff.2 hy) (cmpL_antisymm h1 h2)) ha hb hp
theorem linesOf_perm (l : List Pt) (path : ByteArray) : (linesOf l path).Perm (addedL l path) := List.mergeSort_perm _ _
theorem linesOf_rising (l : List Pt) (path : ByteArray) : (linesOf l path).Pairwise (fun x y => 0 ≤ cmpL y.id x.id) := by
  have := List.pairwise_mergeSort (le := fun a b : Ln => decide (0 ≤ cmpL b.id a.id)) (fun a b c h1 h2 => by simp only [decide_eq_true_eq] at *; exact cmpL_le_trans h1 h2) (fun a b => by
    rcases cmpL_total a.id b.id with h | h <;> simp [h]) (addedL l path)
  exact this.imp fun {a b} h => by simpa using h
theorem lines_is {l : List Pt} {path : ByteArray} {ys : List Ln} (hnd : ((addedL l path).map (·.id)).Nodup) (hp : ys.Perm (addedL l path)) (hs : ys.Pairwise (fun x y => 0 ≤ cmpL y.id x.id)) : ys = linesOf l path :=
  lines_ext (hp.trans (linesOf_perm l path).symm) ((hp.map _).nodup_iff.2 hnd) hs (linesOf_rising l path)
def prOf (p : Nat × Nat) : Pr := ⟨p.1, p.2⟩
def fileL (l : List Pt) (path : ByteArray) : Fl :=
  ⟨path, deadBy (linesOf l path) (killsOf l (hunkIdx l path)), (relPairsL (closeM (addAll (linesOf l path) (edgesOf l (hunkIdx l path))))).map prOf⟩
def ofE (l : List Pt) : Nat := if rightB l then if closedB l then if fitsB l (trackedL l) then 0 else 11 else 17 else 10
def ofF (l : List Pt) : List Fl := if ofE l = 0 then (trackedL l).map (fileL l) else []

/-! ### lines have different numbers -/
theorem addsOf_mem {id : Nat} : ∀ {n : Nat} {a : List ByteArray} {x : Ln}, x ∈ addsOf id n a → x.id.p = id ∧ (n : Int) ≤ x.id.n ∧ x.id.n < (n : Int) + a.length
  | _, [], _, h => by simp [addsOf] at h
  | n, s :: r, x, h => by
    rw [addsOf, List.mem_cons] at h
    rcases h with rfl | h
    · simp; omega
    · have := addsOf_mem h
      simp only [List.length_cons]
      omega
theorem addsOf_rising {id : Nat} : ∀ (n : Nat) (a : List ByteArray), (addsOf id n a).Pairwise (fun x y => x.id.n < y.id.n)
  | _, [] => by simp [addsOf]
  | n, s :: r => by
    rw [addsOf, List.pairwise_cons]
    refine ⟨fun y hy => ?_, addsOf_rising (n + 1) r⟩
    have := addsOf_mem hy
    simp; omega
theorem hkAdds_mem {path : ByteArray} {id n : Nat} {h : Hk} {x : Ln} (hx : x ∈ hkAdds path id n h) : x.id.p = id ∧ (n : Int) ≤ x.id.n ∧ x.id.n < (n : Int) + h.adds.length := by
  unfold hkAdds at hx
  split at hx
  · exact addsOf_mem hx
  · simp at hx
theorem ptAdds_mem {path : ByteArray} {id : Nat} : ∀ {n : Nat} {hs : List Hk} {x : Ln}, x ∈ ptAdds path id n hs → x.id.p = id ∧ (n : Int) ≤ x.id.n
  | _, [], _, h => by simp [ptAdds] at h
  | n, h :: r, x, hx => by
    rw [ptAdds, List.mem_append] at hx
    rcases hx with hx | hx
    · have := hkAdds_mem hx; omega
    · have := ptAdds_mem hx; omega
theorem ptAdds_rising {path : ByteArray} {id : Nat} : ∀ (n : Nat) (hs : List Hk), (ptAdds path id n hs).Pairwise (fun x y => x.id.n < y.id.n)
  | _, [] => by simp [ptAdds]
  | n, h :: r => by
    rw [ptAdds, List.pairwise_append]
    refine ⟨?_, ptAdds_rising _ r, fun x hx y hy => ?_⟩
    · unfold hkAdds
      split
      · exact addsOf_rising _ _
      · exact List.Pairwise.nil
    · have h1 := hkAdds_mem hx
      have h2 := ptAdds_mem hy
      omega
theorem added_nodup (path : ByteArray) : ∀ {l : List Pt}, (l.map (·.id)).Nodup → ((addedL l path).map (·.id)).Nodup
  | [], _ => by simp [addedL]
  | p :: r, h => by
    rw [List.map_cons, List.nodup_cons] at h
    have e : addedL (p :: r) path = ptAdds path p.id 0 p.hunks ++ addedL r path := by simp [addedL]
    rw [e, List.map_append, List.nodup_append]
    refine ⟨List.pairwise_map.2 ((ptAdds_rising 0 p.hunks).imp fun {a b} hab e => by rw [e] at hab; omega), added_nodup path h.2, fun a ha b hb e => ?_⟩
    obtain ⟨x, hx, rfl⟩ := List.mem_map.1 ha
    obtain ⟨y, hy, rfl⟩ := List.mem_map.1 hb
    rw [addedL, List.mem_flatMap] at hy
    obtain ⟨q, hq, hy⟩ := hy
    have h1 := ptAdds_mem hx
    have h2 := ptAdds_mem hy
    refine h.1 (List.mem_map.2 ⟨q, hq, ?_⟩)
    rw [← h1.1, ← h2.1, e]
theorem added_le {l : List Pt} {ps : List ByteArray} {p : ByteArray} (hp : p ∈ ps) (h : addedSum l ps ≤ 40) : (addedL l p).length ≤ 40 := by
  obtain ⟨k, hk, rfl⟩ := List.getElem_of_mem hp
  have := addedSum_le (l := l) (List.getElem?_eq_getElem hk)
  omega
theorem paths_small {l : List ByteArray} (h : pathsB l = true) : ∀ s ∈ l, s.size ≤ 20 := by
  intro s hs
  simp only [pathsB, Bool.and_eq_true, Bool.not_eq_true'] at h
  have := List.any_eq_false.1 h.2.2 s hs
  simp only [isPathB, Bool.not_eq_true', Bool.not_eq_false, Bool.and_eq_true, decide_eq_true_eq] at this
  exact this.2.1
theorem right_paths {l : List Pt} (h : rightB l = true) : ∀ p ∈ l, (∀ s ∈ p.makes, s.size ≤ 20) ∧ (∀ s ∈ p.drops, s.size ≤ 20) := by
  intro p hp
  simp only [rightB, Bool.and_eq_true] at h
  have := List.all_eq_true.1 h.2 p hp
  simp only [isB, Bool.and_eq_true] at this
  exact ⟨paths_small this.2.2.1, paths_small this.2.2.2.1⟩
end Go.Proofs.YthnfkjcndidoaaaGreatDoor
