import Derived.Test.YthnfkjcndidoaaaGreatDoorCMap2
import Derived.Test.YthnfkjcndidoaaaGreatDoorCSortLn
import Derived.Test.YthnfkjcndidoaaaGreatDoorCFits
set_option linter.unusedVariables false
set_option linter.unusedSimpArgs false
namespace Go.Proofs.YthnfkjcndidoaaaGreatDoor
open Go.RowKit Go.Shelf

/-! ### state.file: what it makes -/
def idxOf (ys : List Ln) (id : LId) : Option Nat := ys.findIdx? fun x => decide (x.id = id)
theorem idxOf_none {ys : List Ln} {id : LId} : idxOf ys id = none ↔ ∀ x ∈ ys, x.id ≠ id := by
  simp [idxOf, List.findIdx?_eq_none_iff]
theorem idxOf_some {ys : List Ln} (hnd : (ys.map (·.id)).Nodup) {id : LId} {i : Nat} : idxOf ys id = some i ↔ ∃ x, ys[i]? = some x ∧ x.id = id := by
  unfold idxOf
  rw [List.findIdx?_eq_some_iff_getElem]
  constructor
  · rintro ⟨hi, h1, _⟩
    exact ⟨ys[i], List.getElem?_eq_getElem hi, by simpa using h1⟩
  · rintro ⟨x, hx, rfl⟩
    obtain ⟨hi, rfl⟩ := List.getElem?_eq_some_iff.1 hx
    refine ⟨hi, by simp, fun j hj hjd => ?_⟩
    have := List.pairwise_iff_getElem.1 hnd j i (by simp; omega) (by simpa using hi) hj
    simp at this hjd
    exact this hjd
def mapLn (ys : List Ln) (k : Nat) (id : LId) : Option Nat := idxOf (ys.take k) id
theorem mapLn_zero (ys : List Ln) : mapLn ys 0 = fun _ => none := by funext id; simp [mapLn, idxOf]
theorem mapLn_succ {ys : List Ln} (hnd : (ys.map (·.id)).Nodup) {k : Nat} {x : Ln} (hx : ys[k]? = some x) (id : LId) : (if id = x.id then some k else mapLn ys k id) = mapLn ys (k + 1) id := by
  have hk : k < ys.length := (List.getElem?_eq_some_iff.1 hx).1
  have hnd2 : ∀ m, ((ys.take m).map (·.id)).Nodup := fun m => by rw [List.map_take]; exact hnd.sublist (List.take_sublist _ _)
  unfold mapLn
  by_cases h : id = x.id
  · rw [if_pos h]
    refine ((idxOf_some (hnd2 _)).2 ⟨x, ?_, h.symm⟩).symm
    rw [List.getElem?_take_of_lt (by omega)]; exact hx
  · rw [if_neg h]
    cases hm : idxOf (ys.take (k + 1)) id with
    | none =>
      rw [idxOf_none] at hm ⊢
      intro y hy
      exact hm y (List.take_subset_take_left ys (by omega : k ≤ k + 1) hy)
    | some i =>
      rw [idxOf_some (hnd2 _)] at hm ⊢
      obtain ⟨y, hy, hyi⟩ := hm
      refine ⟨y, ?_, hyi⟩
      have hi : i < k + 1 := by
        have := (List.getElem?_eq_some_iff.1 hy).1
        simp at this; omega
      rw [List.getElem?_take_of_lt hi] at hy
      have : i ≠ k := by
        rintro rfl
        rw [hx] at hy
        cases hy
        exact h hyi.symm
      rw [List.getElem?_take_of_lt (by omega)]
      exact hy
/-- Lines that are killed. -/
def deadBy (ys : List Ln) (ks : List LId) : List Ln := ys.map fun x => { x with dead := x.dead || ks.any fun k => decide (k = x.id) }
theorem deadBy_len (ys : List Ln) (ks : List LId) : (deadBy ys ks).length = ys.length := by simp [deadBy]
theorem deadBy_nil (ys : List Ln) : deadBy ys [] = ys := by simp [deadBy]
theorem deadBy_none {ys : List Ln} {ks : List LId} {k : LId} (h : idxOf ys k = none) : deadBy ys (ks ++ [k]) = deadBy ys ks := by
  rw [idxOf_none] at h
  unfold deadBy
  refine List.map_congr_left fun x hx => ?_
  have := h x hx
  simp [Ne.symm this]
theorem deadBy_some {ys : List Ln} (hnd : (ys.map (·.id)).Nodup) {ks : List LId} {k : LId} {i : Nat} (h : idxOf ys k = some i) : deadBy ys (ks ++ [k]) = (deadBy ys ks).modify i fun x => { x with dead := true } := by
  obtain ⟨x, hx, rfl⟩ := (idxOf_some hnd).1 h
  apply List.ext_getElem?
  intro j
  rw [List.getElem?_modify]
  unfold deadBy
  rw [List.getElem?_map, List.getElem?_map]
  by_cases hij : i = j
  · subst hij
    rw [hx]
    simp
  · cases hy : ys[j]? with
    | none => rfl
    | some y =>
      have hne : x.id ≠ y.id := by
        intro e
        have h1 := (idxOf_some hnd).2 ⟨x, hx, rfl⟩
        have h2 := (idxOf_some hnd).2 ⟨y, hy, rfl⟩
        rw [e] at h1
        rw [h1] at h2
        exact hij (Option.some.inj h2)
      simp [hne, hij]
def edgeStep (ys : List Ln) (xs : List Nat) (e : Edg) : List Nat := match idxOf ys e.a, idxOf ys e.b with | some a, some b => addR xs a b | _, _ => xs
def addAll (ys : List Ln) (es : List Edg) : List Nat := es.foldl (edgeStep ys) (List.replicate ys.length 0)
theorem addAll_snoc (ys : List Ln) (es : List Edg) (e : Edg) : addAll ys (es ++ [e]) = edgeStep ys (addAll ys es) e := by simp [addAll]
def hkOf (l : List Pt) (p : Nat × Nat) : Hk := ((l[p.1]?).bind fun x => x.hunks[p.2]?).getD ⟨⟨#[]⟩, [], [], []⟩
def killsOf (l : List Pt) (ps : List (Nat × Nat)) : List LId := ps.flatMap fun p => (hkOf l p).kills
def edgesOf (l : List Pt) (ps : List (Nat × Nat)) : List Edg := ps.flatMap fun p => (hkOf l p).edges
theorem lnCells_set {zs : List Ln} {i : Nat} (hi : i < zs.length) : (lnCells zs).set (i * 4 + 3) (.bool true) = lnCells (zs.modify i fun x => { x with dead := true }) := by
  have hx := split_at (List.getElem?_eq_getElem hi)
  have e1 : lnCells zs = lnCells (zs.take i) ++ (lnCell zs[i] ++ lnCells (zs.drop (i + 1))) := by
    refine (congrArg lnCells hx).trans ?_
    simp only [lnCells, List.flatMap_append, List.flatMap_cons]
  have e2 : zs.modify i (fun x => { x with dead := true }) = zs.take i ++ ({ zs[i] with dead := true } : Ln) :: zs.drop (i + 1) := by
    rw [List.modify_eq_take_cons_drop hi]
  rw [e2, e1]
  have hl : (lnCells (zs.take i)).length = i * 4 := by rw [lnCells_len, List.length_take, Nat.min_eq_left (by omega)]
  rw [List.set_append_right _ _ (by omega), hl, show i * 4 + 3 - i * 4 = 3 by omega]
  simp [lnCells, lnCell]
/-- The state behind some of the hunks. -/
structure FileSt (w : World) (path : ByteArray) (vl : Value) (b5 b6 b9 bm br ba : Nat) (bs : List (Nat × Nat)) (ys : List Ln) (W : World) (ks : List LId) (es : List Edg) : Prop where
  own : OwnLn W w.heap.size vl (deadBy ys ks)
  rel : RelIs W br ba bs (addAll ys es)
  file : W.heap[b5]? = some (.cells #[.string path, vl, .slice none 0 0] 32 (0, 0))
  map : MpIs encL encI W bm (idxOf ys)
  hb6 : Box W b6 106 (.map (some bm))
  hb9 : Box W b9 107 (.pointer (some ⟨br, 0, none⟩))
  fr : Fr No w W
  nd : (ys.map (·.id)).Nodup
  p1 : ∀ i, OwnO vl i → w.heap.size < i ∧ i < b5
  p2 : ∀ i, i ∈ relBlocks br ba bs → b6 < i ∧ i < b9
  p3 : w.heap.size < b5
  p4 : b5 < bm
  p5 : bm < b6
  p6 : b6 < b9
section
variable {w W : World} {path : ByteArray} {vl : Value} {b5 b6 b9 bm br ba : Nat} {bs : List (Nat × Nat)} {ys : List Ln} {ks : List LId} {es : List Edg}
theorem FileSt.keep (h : FileSt w path vl b5 b6 b9 bm br ba bs ys W ks es) {S : Nat → Prop} {W' : World} (hf : Fr S W W') (h1 : ∀ i, OwnO vl i → ¬ S i) (h2 : ∀ i, i ∈ relBlocks br ba bs → ¬ S i) (h3 : ¬ S b5 ∧ ¬ S bm ∧ ¬ S b6 ∧ ¬ S b9) (h4 : ∀ i, S i → w.heap.size ≤ i) : FileSt w path vl b5 b6 b9 bm br ba bs ys W' ks es :=
  ⟨own_fr h.own hf h1, h.rel.fr hf h2, hf.heap h3.1 h.file, h.map.fr hf h3.2.1, h.hb6.fr hf h3.2.2.1, h.hb9.fr hf h3.2.2.2, h.fr.comp hf (fun _ _ e => e) (fun i hi e => by have := h4 i e; omega), h.nd, h.p1, h.p2, h.p3, h.p4, h.p5, h.p6⟩
theorem FileSt.alloc (h : FileSt w path vl b5 b6 b9 bm br ba bs ys W ks es) (o : Obj) : FileSt w path vl b5 b6 b9 bm br ba bs ys (W.alloc o) ks es :=
  h.keep (Fr.alloc No W o) (fun _ _ e => e) (fun _ _ e => e) ⟨fun e => e, fun e => e, fun e => e, fun e => e⟩ (fun _ e => e.elim)
/-- The blocks that are written. -/
def FileO (vl : Value) (br ba : Nat) (bs : List (Nat × Nat)) (i : Nat) : Prop := OwnO vl i ∨ i ∈ relBlocks br ba bs
theorem FileSt.rel_set (h : FileSt w path vl b5 b6 b9 bm br ba bs ys W ks es) {W' : World} {es' : List Edg} (hr : RelIs W' br ba bs (addAll ys es')) (hf : Fr (fun i => i ∈ relBlocks br ba bs) W W') : FileSt w path vl b5 b6 b9 bm br ba bs ys W' ks es' := by
  have q1 := h.p2
  have q2 := h.p1
  have := h.p3; have := h.p4; have := h.p5; have := h.p6
  refine ⟨own_fr h.own hf (fun i hi e => by have := (q1 i e); have := q2 i hi; omega), hr, hf.heap (fun e => by have := q1 _ e; omega) h.file, h.map.fr hf (fun e => by have := q1 _ e; omega), h.hb6.fr hf (fun e => by have := q1 _ e; omega), h.hb9.fr hf (fun e => by have := q1 _ e; omega),
    h.fr.comp hf (fun _ _ e => e) (fun i hi e => by have := q1 _ e; omega), h.nd, h.p1, h.p2, h.p3, h.p4, h.p5, h.p6⟩
theorem FileSt.kill (h : FileSt w path vl b5 b6 b9 bm br ba bs ys W ks es) {k : LId} {i g cap : Nat} (hi : idxOf ys k = some i) (hv : vl = .slice (some ⟨g, 0, none⟩) ys.length cap) : FileSt w path vl b5 b6 b9 bm br ba bs ys (W.setCell ⟨g, i * 4 + 3, none⟩ (.bool true)) (ks ++ [k]) es := by
  have hg : OwnO vl g := by rw [hv]; exact ownO_slice.2 rfl
  have hf : Fr (One g) W (W.setCell ⟨g, i * 4 + 3, none⟩ (.bool true)) := Fr.set1 W g (i * 4 + 3) _
  have q1 := h.p1 g hg
  have q2 := h.p2
  have := h.p3; have := h.p4; have := h.p5; have := h.p6
  have hil : i < ys.length := by
    obtain ⟨x, hx, _⟩ := (idxOf_some h.nd).1 hi
    exact (List.getElem?_eq_some_iff.1 hx).1
  refine ⟨?_, h.rel.fr hf (fun j hj e => by have e : j = g := e; have := q2 j hj; omega), hf.heap (fun e => by have e : b5 = g := e; omega) h.file, h.map.fr hf (fun e => by have e : bm = g := e; omega), h.hb6.fr hf (fun e => by have e : b6 = g := e; omega), h.hb9.fr hf (fun e => by have e : b9 = g := e; omega),
    h.fr.comp hf (fun _ _ e => e) (fun j hj e => by have e : j = g := e; omega), h.nd, h.p1, h.p2, h.p3, h.p4, h.p5, h.p6⟩
  rw [deadBy_some h.nd hi]
  rcases h.own.cases with ⟨rfl, _⟩ | ⟨g', cap', cur, e, hb, hgl, hh, h1, h2, h3, h4⟩
  · cases hv
  · rw [hv] at e
    obtain ⟨rfl, hlen, rfl⟩ : g = g' ∧ ys.length = (deadBy ys ks).length ∧ cap = cap' := by simpa using e
    unfold OwnLn
    rw [hv]
    have hm : ((deadBy ys ks).modify i fun x => { x with dead := true }).length = ys.length := by simp [deadBy]
    rw [hm]
    refine ⟨by rw [lnCells_len, hm], .inr ⟨g, cap, cur.setIfInBounds (i * 4 + 3) (.bool true), rfl, hb, ?_, by omega, h2, by simpa using h3, ?_⟩⟩
    · simp [World.setCell, Array.getElem?_modify, hh]
    · rw [← lnCells_set (by rw [deadBy_len]; exact hil), ← h4, ← hlen]
      simp [List.take_set]
theorem FileSt.stay (h : FileSt w path vl b5 b6 b9 bm br ba bs ys W ks es) {k : LId} (hi : idxOf ys k = none) : FileSt w path vl b5 b6 b9 bm br ba bs ys W (ks ++ [k]) es := by
  refine { h with own := ?_ }
  rw [deadBy_none hi]
  exact h.own
end
end Go.Proofs.YthnfkjcndidoaaaGreatDoor
