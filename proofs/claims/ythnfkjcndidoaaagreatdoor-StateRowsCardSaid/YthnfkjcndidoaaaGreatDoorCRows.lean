import Derived.Test.YthnfkjcndidoaaaGreatDoorCKnown
set_option linter.unusedVariables false
set_option linter.unusedSimpArgs false
namespace Go.Proofs.YthnfkjcndidoaaaGreatDoor
open Go.RowKit Go.Shelf

/-! ### Patches in a row, in plain words -/
def fStr : ByteArray := ⟨#[102]⟩
def zStr : ByteArray := ⟨#[48, 10]⟩
def xStr : ByteArray := ⟨#[120, 10]⟩
def rowP : Nat → Pt
  | 0 => ⟨1, [], [fStr], [], [⟨fStr, [zStr], [], []⟩]⟩
  | j + 1 => ⟨j + 2, [j + 1], [], [], [⟨fStr, [xStr], [⟨⟨j + 1, 0⟩, ⟨j + 2, 0⟩⟩], []⟩]⟩
def killP (d : Nat) : Pt := ⟨99, [d], [], [], [⟨fStr, [], [], [⟨d, 0⟩]⟩]⟩
def rowsL (k d : Nat) : List Pt := (List.range k).map rowP ++ [killP d]
def lineP (j : Nat) : Ln := ⟨⟨j + 1, 0⟩, if j = 0 then zStr else xStr, false⟩
def linesK (k : Nat) : List Ln := (List.range k).map lineP
def fileK (k d : Nat) : Fl := ⟨fStr, deadBy (linesK k) [⟨d, 0⟩], (relPairsL (closeM (addAll (linesK k) (edgesOf (rowsL k d) (hunkIdx (rowsL k d) fStr))))).map prOf⟩
/-- Lines told apart. -/
def lnEq (a b : Ln) : Bool := decide (a.id = b.id) && (decide (a.text = b.text) && (a.dead == b.dead))
theorem lnEq_iff {a b : Ln} (h : lnEq a b = true) : a = b := by
  simp only [lnEq, Bool.and_eq_true, decide_eq_true_eq, beq_iff_eq] at h
  cases a; cases b
  simp only [Ln.mk.injEq] at *
  exact h
def lnsEq : List Ln → List Ln → Bool
  | [], [] => true
  | a :: r, b :: s => lnEq a b && lnsEq r s
  | _, _ => false
theorem lnsEq_iff : ∀ {a b : List Ln}, lnsEq a b = true → a = b
  | [], [], _ => rfl
  | a :: r, b :: s, h => by
    simp only [lnsEq, Bool.and_eq_true] at h
    rw [lnEq_iff h.1, lnsEq_iff h.2]
  | [], _ :: _, h => by simp [lnsEq] at h
  | _ :: _, [], h => by simp [lnsEq] at h
def lidsEq (a b : List LId) : Bool := decide (a = b)
/-- All that is asked of the row, at k and d. -/
def rowsB (k d : Nat) : Bool :=
  rightB (rowsL k d) && (closedB (rowsL k d) && (fitsB (rowsL k d) (trackedL (rowsL k d)) && (decide (trackedL (rowsL k d) = [fStr]) && (lnsEq (addedL (rowsL k d) fStr) (linesK k) &&
  (decide (killsOf (rowsL k d) (hunkIdx (rowsL k d) fStr) = [⟨d, 0⟩]) &&
  (decide ((fileK k d).pairs.length = k * (k - 1) / 2) && (decide ((aliveL (fileK k d).lines (fileK k d).lines.length).length = k - 1) && (((fileK k d).lines[d - 1]?.any fun x => x.dead) && !closedB ((rowsL k d).drop 1)))))))))
theorem rowsB_all : ((List.range 12).all fun a => (List.range (a + 2)).all fun b => rowsB (a + 2) (b + 1)) = true := by kernel_rfl
theorem rowsB_at {k d : Nat} (h1 : 2 ≤ k) (h2 : k ≤ 13) (h3 : 1 ≤ d) (h4 : d ≤ k) : rowsB k d = true := by
  have h := List.all_eq_true.1 rowsB_all (k - 2) (List.mem_range.2 (by omega))
  have h := List.all_eq_true.1 h (d - 1) (List.mem_range.2 (by omega))
  rwa [show k - 2 + 2 = k by omega, show d - 1 + 1 = d by omega] at h
theorem linesK_ids (k : Nat) : ((linesK k).map (·.id)).Nodup := by
  rw [linesK, List.map_map, List.Nodup, List.pairwise_map]
  refine List.pairwise_lt_range.imp fun {a b} h e => ?_
  simp [lineP] at e
  omega
theorem linesK_rise (k : Nat) : (linesK k).Pairwise (fun x y => 0 ≤ cmpL y.id x.id) := by
  rw [linesK, List.pairwise_map]
  refine List.pairwise_lt_range.imp fun {a b} h => ?_
  by_cases h1 : cmpL (lineP b).id (lineP a).id < 0
  · have := (cmpL_lt _ _).1 h1
    simp [lineP] at this
    omega
  · omega
theorem rows_plain {k d : Nat} (h1 : 2 ≤ k) (h2 : k ≤ 13) (h3 : 1 ≤ d) (h4 : d ≤ k) :
    ofE (rowsL k d) = 0 ∧ ofF (rowsL k d) = [fileK k d] ∧ (fileK k d).lines.length = k ∧ (fileK k d).pairs.length = k * (k - 1) / 2 ∧ (aliveL (fileK k d).lines (fileK k d).lines.length).length = k - 1 ∧
    (∃ x, (fileK k d).lines[d - 1]? = some x ∧ x.dead = true) ∧ closedB (rowsL k d) = true ∧ closedB ((rowsL k d).drop 1) = false := by
  have h := rowsB_at h1 h2 h3 h4
  simp only [rowsB, Bool.and_eq_true, decide_eq_true_eq, Bool.not_eq_true'] at h
  obtain ⟨g1, g2, g3, g4, g5, g6, g7, g8, g9, g10⟩ := h
  have he : ofE (rowsL k d) = 0 := by simp [ofE, g1, g2, g3]
  have ha := lnsEq_iff g5
  have hl : linesOf (rowsL k d) fStr = linesK k := (lines_is (by rw [ha]; exact linesK_ids k) (by rw [ha]) (linesK_rise k)).symm
  refine ⟨he, ?_, by simp [fileK, deadBy_len, linesK], g7, g8, ?_, g2, g10⟩
  · rw [ofF, if_pos he, g4, List.map_cons, List.map_nil, fileL, hl, g6]
    rfl
  · cases hx : (fileK k d).lines[d - 1]? with
    | none => rw [hx] at g9; simp at g9
    | some x =>
      rw [hx] at g9
      exact ⟨x, rfl, by simpa using g9⟩
theorem rows_small {k d : Nat} (h2 : k ≤ 13) : Small (rowsL k d) := by
  have hr : ∀ p ∈ rowsL k d, (ptNeeds p).length ≤ 3 ∧ lenSum p.hunks ≤ 1 := by
    intro p hp
    rcases List.mem_append.1 hp with hp | hp
    · obtain ⟨j, _, rfl⟩ := List.mem_map.1 hp
      cases j <;> simp [rowP, ptNeeds, hkNeeds, lenSum]
    · rw [List.mem_singleton.1 hp]
      simp [killP, ptNeeds, hkNeeds, lenSum]
  refine ⟨fun p hp => Nat.le_trans (hr p hp).1 (by decide), fun p hp => Nat.le_trans (hr p hp).2 (by decide), ?_⟩
  have : ∀ l : List Pt, (∀ p ∈ l, p.makes.length ≤ 1) → (l.flatMap (·.makes)).length ≤ l.length := by
    intro l
    induction l with
    | nil => simp
    | cons p r ih =>
      intro h
      rw [List.flatMap_cons, List.length_append, List.length_cons]
      have := h p (List.mem_cons_self ..)
      have := ih fun q hq => h q (List.mem_cons_of_mem _ hq)
      omega
  have h3 := this (rowsL k d) (fun p hp => by
    rcases List.mem_append.1 hp with hp | hp
    · obtain ⟨j, _, rfl⟩ := List.mem_map.1 hp
      cases j <;> simp [rowP]
    · rw [List.mem_singleton.1 hp]
      simp [killP])
  have : (rowsL k d).length = k + 1 := by simp [rowsL]
  omega
/-! ### StateRows -/
def PV (W : World) (z : Pt × Value × Value × Value × Value) : Prop := SlIs rU32 W z.2.1 z.1.deps ∧ SlIs rStr W z.2.2.1 z.1.makes ∧ SlIs rStr W z.2.2.2.1 z.1.drops ∧ SlIs rHk W z.2.2.2.2 z.1.hunks
/-- A patch's rows lie in blocks that hold no patches. -/
def PatAt (W : World) (z : Pt × Value × Value × Value × Value) : Prop := ∃ os : List (Nat × Array Value × TypeId), (∀ o ∈ os, o.2.2 ≠ 52 ∧ W.heap[o.1]? = some (.cells o.2.1 o.2.2 (0, 0))) ∧
  ∀ W' : World, (∀ o ∈ os, W'.heap[o.1]? = some (.cells o.2.1 o.2.2 (0, 0))) → PV W' z
section
variable {W W' : World} {z : Pt × Value × Value × Value × Value}
theorem PatAt.pv (h : PatAt W z) : PV W z := by
  obtain ⟨os, h1, h2⟩ := h
  exact h2 W fun o ho => (h1 o ho).2
theorem PatAt.fr {S : Nat → Prop} (h : PatAt W z) (hf : Fr S W W') (hS : ∀ i, S i → ∃ cur, W.heap[i]? = some (.cells cur 52 (0, 0))) : PatAt W' z := by
  obtain ⟨os, h1, h2⟩ := h
  refine ⟨os, fun o ho => ⟨(h1 o ho).1, hf.heap (fun hi => ?_) (h1 o ho).2⟩, h2⟩
  obtain ⟨cur, hc⟩ := hS _ hi
  have := (h1 o ho).2.symm.trans hc
  simp at this
  exact (h1 o ho).1 this.2
theorem PatAt.no (h : PatAt W z) (hf : Fr No W W') : PatAt W' z := h.fr hf (fun _ e => e.elim)
theorem PatAt.own {base n : Nat} {v : Value} {xs : List Value} (h : PatAt W z) (ho : W.ownsRow base 52 5 v n xs) (hf : Fr (OwnO v) W W') : PatAt W' z := h.fr hf fun i hi => (own_block ho hi).2.2
end
/-- A row of patches of one's own. -/
def RowSt (W : World) (base : Nat) (v : Value) (ps : List Pt) : Prop := ∃ zs : List (Pt × Value × Value × Value × Value), zs.map (·.1) = ps ∧ W.ownsRow base 52 5 v zs.length (zs.flatMap ptCell) ∧ ∀ z ∈ zs, PatAt W z
theorem RowSt.fr {W W' : World} {base : Nat} {v : Value} {ps : List Pt} (h : RowSt W base v ps) (hf : Fr No W W') : RowSt W' base v ps := by
  obtain ⟨zs, h1, h2, h3⟩ := h
  exact ⟨zs, h1, own_fr h2 hf (fun _ _ e => e), fun z hz => (h3 z hz).no hf⟩
theorem RowSt.sl {W : World} {base : Nat} {v : Value} {ps : List Pt} (h : RowSt W base v ps) : SlIs rPt W v ps := by
  obtain ⟨zs, rfl, h2, h3⟩ := h
  exact ownRow_sl rPt ptCell (f := (·.1)) (fun _ => rfl) (by decide) h2 (fun z hz => ⟨z.2.1, z.2.2.1, z.2.2.2.1, z.2.2.2.2, rfl, (h3 z hz).pv.1, (h3 z hz).pv.2.1, (h3 z hz).pv.2.2.1, (h3 z hz).pv.2.2.2⟩)
/-- The tail of a slice. -/
theorem SlIs.tail {α : Type} {d : Rp α} {W : World} {b o n c : Nat} {xs : List α} (h : SlIs d W (.slice (some ⟨b, o, none⟩) n c) xs) (hn : 2 ≤ xs.length) : SlIs d W (.slice (some ⟨b, o + d.sz, none⟩) (n - 1) (c - 1)) (xs.drop 1) := by
  obtain ⟨A, c', e, h1, h2, h3⟩ := h
  cases e
  refine ⟨some ⟨b, o + d.sz, none⟩, c - 1, by rw [List.length_drop], by rw [List.length_drop]; omega, by rw [List.length_drop]; omega, fun hne => ⟨b, o + d.sz, rfl, fun j x hj => ?_⟩⟩
  obtain ⟨b', o', e, h4⟩ := h3 (by rintro rfl; simp at hn)
  cases e
  rw [List.getElem?_drop] at hj
  obtain ⟨cs, h5, h6⟩ := h4 _ x hj
  refine ⟨cs, h5, fun i u hi => ?_⟩
  have := h6 i u hi
  rwa [show o + (1 + j) * d.sz + i = o + d.sz + j * d.sz + i by rw [Nat.add_mul]; omega] at this
theorem row_atB {W : World} {g base : Nat} {cur : Array Value} {e : TypeId} {n size : Nat} (hb : W.heap[g]? = some (.cells cur e (0, 0))) (hs : cur.size = n * size) (hn : n ≤ maxLen) (hg : base ≤ g) : W.ownsRow base e size (.slice (some ⟨g, 0, none⟩) n n) n cur.toList :=
  ⟨by rw [Array.length_toList]; exact hs, .inr ⟨g, n, cur, rfl, hg, hb, Nat.le_refl _, hn, hs, by rw [← hs, ← Array.length_toList, List.take_length]⟩⟩
def rowR (j : Nat) : Pt := ⟨j + 1, [j], [], [], [⟨fStr, [xStr], [⟨⟨j, 0⟩, ⟨j + 1, 0⟩⟩], []⟩]⟩
theorem rowR_eq {j : Nat} (h : 1 ≤ j) : rowP j = rowR j := by
  obtain ⟨i, rfl⟩ : ∃ i, j = i + 1 := ⟨j - 1, by omega⟩
  rfl
theorem range_row {j : Nat} (h : 1 ≤ j) : (List.range (j + 1)).map rowP = (List.range j).map rowP ++ [rowR j] := by
  rw [List.range_succ, List.map_append, List.map_cons, List.map_nil, rowR_eq h]
/-- What a round lays. -/
def rowObs (n j : Nat) : List Obj := [
  .cells #[.int .u32 j] 43,
  .cells #[.string ⟨#[120, 10]⟩] 9,
  .cells #[.int .u32 j, .int .i64 0, .int .u32 (j + 1), .int .i64 0] 59,
  .cells #[.string ⟨#[102]⟩, .slice (some ⟨n + 1, 0, none⟩) 1 1, .slice (some ⟨n + 1 + 1, 0, none⟩) 1 1, .slice none 0 0] 57,
  .cells #[.int .u32 (j + 1), .slice (some ⟨n, 0, none⟩) 1 1, .slice none 0 0, .slice none 0 0, .slice (some ⟨n + 1 + 1 + 1, 0, none⟩) 1 1] 52]
def rowZ (n j : Nat) : Pt × Value × Value × Value × Value := (rowR j, .slice (some ⟨n, 0, none⟩) 1 1, .slice none 0 0, .slice none 0 0, .slice (some ⟨n + 1 + 1 + 1, 0, none⟩) 1 1)
theorem rowZ_at {w : World} {j : Nat} : PatAt (allocs w (rowObs w.heap.size j)) (rowZ w.heap.size j) := by
  refine ⟨[(w.heap.size + 0, #[.int .u32 j], 43), (w.heap.size + 1, #[.string ⟨#[120, 10]⟩], 9), (w.heap.size + 2, #[.int .u32 j, .int .i64 0, .int .u32 (j + 1), .int .i64 0], 59), (w.heap.size + 3, #[.string ⟨#[102]⟩, .slice (some ⟨w.heap.size + 1, 0, none⟩) 1 1, .slice (some ⟨w.heap.size + 1 + 1, 0, none⟩) 1 1, .slice none 0 0], 57)], fun o ho => ?_, fun W' hW' => ?_⟩
  · simp only [List.mem_cons, List.not_mem_nil, or_false] at ho
    rcases ho with rfl | rfl | rfl | rfl
    · exact ⟨show (43 : Nat) ≠ 52 by decide, allocs_at _ w 0 _ rfl⟩
    · exact ⟨show (9 : Nat) ≠ 52 by decide, allocs_at _ w 1 _ rfl⟩
    · exact ⟨show (59 : Nat) ≠ 52 by decide, allocs_at _ w 2 _ rfl⟩
    · exact ⟨show (57 : Nat) ≠ 52 by decide, allocs_at _ w 3 _ rfl⟩
  · have h0 := hW' _ (List.mem_cons_self ..)
    have h1 := hW' _ (List.mem_cons_of_mem _ (List.mem_cons_self ..))
    have h2 := hW' _ (List.mem_cons_of_mem _ (List.mem_cons_of_mem _ (List.mem_cons_self ..)))
    have h3 := hW' _ (List.mem_cons_of_mem _ (List.mem_cons_of_mem _ (List.mem_cons_of_mem _ (List.mem_cons_self ..))))
    refine ⟨sl_u32 [j] h0 rfl (by simp [maxLen]), slNil _ _, slNil _ _, ?_⟩
    exact sl_hk [(⟨fStr, [xStr], [⟨⟨j, 0⟩, ⟨j + 1, 0⟩⟩], []⟩, .slice (some ⟨w.heap.size + 1, 0, none⟩) 1 1, .slice (some ⟨w.heap.size + 1 + 1, 0, none⟩) 1 1, .slice none 0 0)] h3 rfl rfl (by simp [maxLen]) (fun z hz => by
      rw [List.mem_singleton.1 hz]
      exact ⟨sl_str [xStr] h1 rfl (by simp [maxLen]), sl_edg [⟨⟨j, 0⟩, ⟨j + 1, 0⟩⟩] h2 rfl rfl (by simp [maxLen]), slNil _ _⟩)
/-- What the last patch lays. -/
def killObs (n d : Nat) : List Obj := [
  .cells #[.int .u32 d] 43,
  .cells #[.int .u32 d, .int .i64 0] 45,
  .cells #[.string ⟨#[102]⟩, .slice none 0 0, .slice none 0 0, .slice (some ⟨n + 1, 0, none⟩) 1 1] 57,
  .cells #[.int .u32 99, .slice (some ⟨n, 0, none⟩) 1 1, .slice none 0 0, .slice none 0 0, .slice (some ⟨n + 1 + 1, 0, none⟩) 1 1] 52]
def killZ (n d : Nat) : Pt × Value × Value × Value × Value := (killP d, .slice (some ⟨n, 0, none⟩) 1 1, .slice none 0 0, .slice none 0 0, .slice (some ⟨n + 1 + 1, 0, none⟩) 1 1)
theorem killZ_at {w : World} {d : Nat} : PatAt (allocs w (killObs w.heap.size d)) (killZ w.heap.size d) := by
  refine ⟨[(w.heap.size + 0, #[.int .u32 d], 43), (w.heap.size + 1, #[.int .u32 d, .int .i64 0], 45), (w.heap.size + 2, #[.string ⟨#[102]⟩, .slice none 0 0, .slice none 0 0, .slice (some ⟨w.heap.size + 1, 0, none⟩) 1 1], 57)], fun o ho => ?_, fun W' hW' => ?_⟩
  · simp only [List.mem_cons, List.not_mem_nil, or_false] at ho
    rcases ho with rfl | rfl | rfl
    · exact ⟨show (43 : Nat) ≠ 52 by decide, allocs_at _ w 0 _ rfl⟩
    · exact ⟨show (45 : Nat) ≠ 52 by decide, allocs_at _ w 1 _ rfl⟩
    · exact ⟨show (57 : Nat) ≠ 52 by decide, allocs_at _ w 2 _ rfl⟩
  · have h0 := hW' _ (List.mem_cons_self ..)
    have h1 := hW' _ (List.mem_cons_of_mem _ (List.mem_cons_self ..))
    have h2 := hW' _ (List.mem_cons_of_mem _ (List.mem_cons_of_mem _ (List.mem_cons_self ..)))
    refine ⟨sl_u32 [d] h0 rfl (by simp [maxLen]), slNil _ _, slNil _ _, ?_⟩
    exact sl_hk [(⟨fStr, [], [], [⟨d, 0⟩]⟩, .slice none 0 0, .slice none 0 0, .slice (some ⟨w.heap.size + 1, 0, none⟩) 1 1)] h2 rfl rfl (by simp [maxLen]) (fun z hz => by
      rw [List.mem_singleton.1 hz]
      exact ⟨slNil _ _, slNil _ _, sl_lid [⟨d, 0⟩] h1 rfl rfl (by simp [maxLen])⟩)
theorem info_patch : (Tryz.prog.info? 52).map (fun i => (i.zero, i.size, i.bytes)) = some (some (.agg #[.int .u32 0, .slice none 0 0, .slice none 0 0, .slice none 0 0, .slice none 0 0]), 5, 104) := by kernel_rfl
set_option maxHeartbeats 1000000 in
set_option maxRecDepth 100000 in
theorem staterows_any {w : World} (hT : Tab w) (n m : Nat) (hn : n < 256) (hm : m < 256) : Calls Tryz.prog 5 #[.int .u8 n, .int .u8 m] w fun e w' => e = .returned (.bool true) ∧ Fr No w w' := by
  have HT := Lib.hid hT
  clear hT
  obtain ⟨i0, hi, hz0, hz1, hz2⟩ := info_parts info_patch
  have HI := Lib.hid (And.intro hi (And.intro hz0 (And.intro hz1 hz2)))
  clear hi hz0 hz1 hz2
  go_enter Tryz.func5, Tryz.ntmps5
  go_wp2_with (first | (go_at_call 9; refine (known_any HT.out).mono ?_; rintro e w1 ⟨rfl, hf1⟩))
  refine namedN (fun W1 hW1 => ?_)
  have hb1 : Box w1 0 4 (.bool true) → True := fun _ => trivial
  clear hb1
  have hf : Fr No w1 W1 := by rw [hW1]; exact (((Fr.alloc _ _ _).trans (Fr.alloc _ _ _)).trans (Fr.alloc _ _ _)).trans (Fr.alloc _ _ _)
  have hs0 : W1.heap.size = w1.heap.size + 4 := by rw [hW1]; simp [World.size_alloc]
  have e0 : W1.heap[w1.heap.size]? = some (.cells #[.string fStr] 9 (0, 0)) := by
    rw [hW1]; exact allocs_at [_, _, _, _] w1 0 _ rfl
  have e1 : W1.heap[w1.heap.size + 1]? = some (.cells #[.string zStr] 9 (0, 0)) := by
    rw [hW1]; exact allocs_at [_, _, _, _] w1 1 _ rfl
  have e2 : W1.heap[w1.heap.size + 2]? = some (.cells #[.string fStr, .slice (some ⟨w1.heap.size + 1, 0, none⟩) 1 1, .slice none 0 0, .slice none 0 0] 57 (0, 0)) := by
    rw [hW1]; exact allocs_at [_, _, _, _] w1 2 _ rfl
  have e3 : W1.heap[w1.heap.size + 3]? = some (.cells #[.int .u32 1, .slice none 0 0, .slice (some ⟨w1.heap.size, 0, none⟩) 1 1, .slice none 0 0, .slice (some ⟨w1.heap.size + 2, 0, none⟩) 1 1] 52 (0, 0)) := by
    rw [hW1]; exact allocs_at [_, _, _, _] w1 3 _ rfl
  have hR0 : RowSt W1 w.heap.size (.slice (some ⟨w1.heap.size + 3, 0, none⟩) 1 1) [rowP 0] := by
    refine ⟨[(rowP 0, .slice none 0 0, .slice (some ⟨w1.heap.size, 0, none⟩) 1 1, .slice none 0 0, .slice (some ⟨w1.heap.size + 2, 0, none⟩) 1 1)], rfl, row_atB e3 rfl (by simp [maxLen]) (by have := hf1.size; omega), fun z hz => ?_⟩
    rw [List.mem_singleton.1 hz]
    refine ⟨[(w1.heap.size, #[.string fStr], 9), (w1.heap.size + 1, #[.string zStr], 9), (w1.heap.size + 2, #[.string fStr, .slice (some ⟨w1.heap.size + 1, 0, none⟩) 1 1, .slice none 0 0, .slice none 0 0], 57)], fun o ho => ?_, fun W' hW' => ?_⟩
    · simp only [List.mem_cons, List.not_mem_nil, or_false] at ho
      rcases ho with rfl | rfl | rfl
      · exact ⟨show (9 : Nat) ≠ 52 by decide, e0⟩
      · exact ⟨show (9 : Nat) ≠ 52 by decide, e1⟩
      · exact ⟨show (57 : Nat) ≠ 52 by decide, e2⟩
    · refine ⟨slNil _ _, sl_str [fStr] (hW' _ (List.mem_cons_self ..)) rfl (by decide), slNil _ _, ?_⟩
      exact sl_hk [(⟨fStr, [zStr], [], []⟩, .slice (some ⟨w1.heap.size + 1, 0, none⟩) 1 1, .slice none 0 0, .slice none 0 0)] (hW' _ (List.mem_cons_of_mem _ (List.mem_cons_of_mem _ (List.mem_cons_self ..)))) rfl rfl (by simp [maxLen]) (fun z hz => by
        rw [List.mem_singleton.1 hz]
        exact ⟨sl_str [zStr] (hW' _ (List.mem_cons_of_mem _ (List.mem_cons_self ..))) rfl (by decide), slNil _ _, slNil _ _⟩)
  have HW := Lib.hid (And.intro (hf1.trans hf) (And.intro hR0 hs0))
  obtain ⟨K, hK⟩ : ∃ K, K = n % 12 + 2 := ⟨_, rfl⟩
  have hKi : (n : Int) % 12 + 2 = (K : Int) := by rw [hK]; push_cast; rfl
  have hK1 : 2 ≤ K := by omega
  have hK2 : K ≤ 13 := by omega
  rw [hKi]
  clear hK hKi
  clear hW1 e0 e1 e2 e3 hR0 hs0 hf hf1
  go_loopw [6, 7] (fun v i wr => ∃ (v' : Value) (j : Nat), v' = v ∧ i = .int .i64 j ∧ 1 ≤ j ∧ j ≤ K ∧ Hid (RowSt wr w.heap.size v' ((List.range j).map rowP)) ∧ Hid (Fr No w wr)) (fun _ i _ => K - (intOf i).toNat)
  case atStart =>
    refine ⟨_, 1, rfl, by go_num, by omega, by omega, Lib.hid HW.out.2.1, Lib.hid HW.out.1⟩
  case round =>
    obtain ⟨v, j, rfl, rfl, hj1, hj2, hR, hfr⟩ := hrel
    by_cases hlt : j < K
    · go_wp2_with (first | (at_builtin; refine stopAt ?_))
      obtain ⟨zs, q1, q2, q3⟩ := hR.out
      have hlen : zs.length = j := by simpa using congrArg List.length q1
      have hwf : Fr No wr (allocs wr (rowObs wr.heap.size j)) := allocs_fr _ _
      have hbw : w.heap.size ≤ wr.heap.size := hfr.out.size
      have hs5 : (allocs wr (rowObs wr.heap.size j)).heap.size = wr.heap.size + 5 := allocs_size _ _
      refine Hid.go (growN rfl _ _ 22 rfl w.heap.size 52 i0 _ 5 104 Tryz.underlying22 HI.out.1 HI.out.2.1 HI.out.2.2.1 HI.out.2.2.2 rfl (by decide) v zs.length (zs.flatMap ptCell) rfl (own_fr q2 hwf (fun _ _ e => e)) ⟨wr.heap.size + 4, 0, none⟩ 1 1 (ptCell (rowZ wr.heap.size j)) rfl rfl (fun i u hu => ?_) ?_ (by decide) (by unfold maxLen; omega) (by omega) ?_ ?_)
      · have := World.news_of_block (allocs_at (rowObs wr.heap.size j) wr 4 _ rfl) i u
        exact this hu
      · simp [Value.oneCell', ptCell, rowZ]
      · exact Nat.le_trans (by omega) (Nat.le_of_eq hs5.symm)
      intro g cap w7 hown hfa hg hgl
      go_wp2
      go_roundw
      case rel =>
        have hown6 := own_fr q2 hwf (fun _ _ e => e)
        refine ⟨_, j + 1, rfl, by go_num, by omega, by omega, Lib.hid ⟨zs ++ [rowZ wr.heap.size j], ?_, ?_, fun z hz => ?_⟩, Lib.hid ((hfr.out.trans hwf).comp hfa (fun _ _ e => e) (fun i hi e => ?_))⟩
        · rw [range_row hj1, List.map_append, q1]
          rfl
        · rw [List.length_append, List.flatMap_append]
          rw [← hlen]
          subst hlen
          simpa using hown
        · refine PatAt.own ?_ hown6 hfa
          rcases List.mem_append.1 hz with hz | hz
          · exact (q3 z hz).no hwf
          · rw [List.mem_singleton.1 hz]
            exact rowZ_at
        · have := (own_block hown6 e).1; omega
      case measure => simp [intOf]; omega
    · obtain rfl : K = j := by omega
      go_wp2_with (first | (at_builtin; refine stopAt ?_))
      obtain ⟨q, hd⟩ : ∃ q, q = m % K := ⟨_, rfl⟩
      have hml : m % K < K := Nat.mod_lt _ (by omega)
      have hmc : (m : Int) % (K : Int) = (q : Int) := by rw [hd]; push_cast; rfl
      have hd1 : ((m : Int) % (K : Int) % 4294967296 + 1) % 4294967296 = (q : Int) + 1 := by rw [hmc]; omega
      have hd2 : ((m : Int) % (K : Int) + 1) % 4294967296 = (q : Int) + 1 := by rw [hmc]; omega
      have hqK : q < K := by omega
      rw [hd1, hd2]
      clear hmc hml hd hd1 hd2
      obtain ⟨zs, q1, q2, q3⟩ := hR.out
      have hlen : zs.length = K := by simpa using congrArg List.length q1
      have hwf : Fr No wr (allocs wr (killObs wr.heap.size (q + 1))) := allocs_fr _ _
      have hbw : w.heap.size ≤ wr.heap.size := hfr.out.size
      have hs5 : (allocs wr (killObs wr.heap.size (q + 1))).heap.size = wr.heap.size + 4 := allocs_size _ _
      refine Hid.go (growN rfl _ _ 22 rfl w.heap.size 52 i0 _ 5 104 Tryz.underlying22 HI.out.1 HI.out.2.1 HI.out.2.2.1 HI.out.2.2.2 rfl (by decide) v zs.length (zs.flatMap ptCell) rfl (own_fr q2 hwf (fun _ _ e => e)) ⟨wr.heap.size + 3, 0, none⟩ 1 1 (ptCell (killZ wr.heap.size (q + 1))) rfl rfl (fun i u hu => ?_) ?_ (by decide) (by unfold maxLen; omega) (by omega) ?_ ?_)
      · have := World.news_of_block (allocs_at (killObs wr.heap.size (q + 1)) wr 3 _ rfl) i u
        exact this hu
      · simp [Value.oneCell', ptCell, killZ]
      · exact Nat.le_trans (by omega) (Nat.le_of_eq hs5.symm)
      intro g cap w7 hown hfa hg hgl
      have hown6 := own_fr q2 hwf (fun _ _ e => e)
      have hR7 : RowSt w7 w.heap.size (.slice (some ⟨g, 0, none⟩) (zs.length + 1) cap) (rowsL K (q + 1)) := by
        refine ⟨zs ++ [killZ wr.heap.size (q + 1)], ?_, ?_, fun z hz => ?_⟩
        · rw [rowsL, List.map_append, q1]
          rfl
        · rw [List.flatMap_append, List.length_append]
          simpa using hown
        · refine PatAt.own ?_ hown6 hfa
          rcases List.mem_append.1 hz with hz | hz
          · exact (q3 z hz).no hwf
          · rw [List.mem_singleton.1 hz]
            exact killZ_at
      have hf7 : Fr No w w7 := (hfr.out.trans hwf).comp hfa (fun _ _ e => e) (fun i hi e => by have := (own_block hown6 e).1; omega)
      have hsl := hR7.sl
      have hll : (rowsL K (q + 1)).length = zs.length + 1 := by rw [hlen]; simp [rowsL]
      rw [← hll] at hsl ⊢
      have hln : (rowsL K (q + 1)).length = K + 1 := by omega
      have hP0 := rows_plain (k := K) (d := q + 1) (by omega) (by omega) (by omega) (by omega)
      have hsm := rows_small (k := K) (d := q + 1) (by omega)
      have hc1 := hR7.sl
      rw [Nat.add_sub_cancel] at hP0
      generalize fileK K (q + 1) = F at hP0
      generalize rowsL K (q + 1) = l at hP0 hsm hsl hln ⊢
      obtain ⟨P, hP⟩ : ∃ P, P = K * (K - 1) / 2 := ⟨_, rfl⟩
      have hKK : (K : Int) * ((K : Int) - 1) = ((K * (K - 1) : Nat) : Int) := by rw [Int.natCast_mul, Int.ofNat_sub (by omega)]; rfl
      have hKm : K * (K - 1) ≤ 13 * 12 := Nat.mul_le_mul hK2 (by omega)
      have hq1 : 0 ≤ (K : Int) * ((K : Int) - 1) ∧ (K : Int) * ((K : Int) - 1) ≤ 156 := by
        rw [hKK]
        generalize K * (K - 1) = q at hKm
        omega
      have hq2 : (K : Int) * ((K : Int) - 1) / 2 = (P : Int) := by
        rw [hKK, hP]; rfl
      rw [← hP] at hP0
      have HP := Lib.hid (And.intro hP0 (And.intro hq1 hq2))
      have H7 := Lib.hid (And.intro hsl (And.intro hf7 hsm))
      have HLN := Lib.hid hln
      clear hf7 hsl hsm hR7 hown hown6 hfa hg hgl q1 q2 q3 hs5 hbw hwf hll hlen hP0 hR hfr hc1 hP hKK hKm hq1 hq2 hln
      go_wp2_with (first | (go_at_call 11; refine stopAt ?_))
      obtain ⟨⟨p1, p2, p3, p4, p5, ⟨xl, p6, p7⟩, p8, p9⟩, hq1, hq2⟩ := HP.out
      refine Hid.go ((of_any H7.out.1 (HT.out.fr H7.out.2.1 (fun e => e)) H7.out.2.2).mono ?_)
      rw [p1, p2]
      rintro e w8 ⟨v8, rfl, ho8, hf8⟩
      obtain ⟨A8, c8, rfl, _, _⟩ := ho8.form
      obtain ⟨bF, oF, xF, Al, cl, Ap, cp, rfl, hx, g0, g1, g2, s1, s2⟩ := at_fl ho8 0 (by simp)
      obtain rfl : F = xF := by simpa using hx
      rw [p3] at g1
      rw [p4] at g2
      simp only [Nat.zero_mul, Nat.add_zero] at g0 g1 g2
      have HF := Lib.hid (And.intro s1 (And.intro s2 (And.intro p5 (And.intro p6 (And.intro p7 (And.intro p8 (And.intro p9 p3)))))))
      clear hx s1 s2 ho8 p1 p2 p3 p4 p5 p6 p7 p8 p9
      go_wp2_with (first | (go_at_call 17; refine stopAt ?_))
      have hfl : FlV w8 F Al cl Ap cp := by
        refine ⟨HF.out.1, HF.out.2.1⟩
      have hal := alive_any (x := F) hfl (by rw [HF.out.2.2.2.2.2.2.2]; omega)
      have p5 := HF.out.2.2.1
      rw [HF.out.2.2.2.2.2.2.2] at hal p5
      rw [HP.out.1.2.2.2.1] at hal
      refine Hid.go (hal.mono ?_)
      rintro e w9 ⟨v9, rfl, ho9, hf9⟩
      obtain ⟨A9, c9, rfl, _⟩ := own_form ho9
      rw [p5]
      have k1 := hf9.cell (fun e => e) g1
      obtain ⟨gl, ol, yl, rfl, hyl, _, _, _, m3⟩ := at_ln (HF.out.1.fr hf9) q (by rw [HF.out.2.2.2.2.2.2.2]; omega)
      have hdd : yl.dead = true := by
        have := HF.out.2.2.2.1.symm.trans hyl
        rw [← Option.some.inj this]
        exact HF.out.2.2.2.2.1
      rw [hdd] at m3
      have hln := HLN.out
      have hlc : l.length ≤ cap ∧ l.length ≤ 9223372036854775807 := by
        obtain ⟨_, _, e, h1, h2⟩ := H7.out.1.form
        cases e
        exact ⟨h1, h2⟩
      have hlc1 := hlc.1
      rw [hln] at hlc1
      have HLC := Lib.hid hlc
      clear hlc
      have HC := Lib.hid hf9
      have hc1 := closed_any (H7.out.1.fr (hf8.trans hf9))
      rw [HF.out.2.2.2.2.2.1] at hc1
      rw [hln] at hc1
      have HC1 := Lib.hid hc1
      clear hal p5 ho9 hf9 hyl hdd g0 g1 g2 hfl hc1
      go_wp2_with (first | (go_at_call 18; refine stopAt ?_))
      refine Hid.go (HC1.out.mono ?_)
      rintro e w10 ⟨rfl, hf10⟩
      clear k1 m3
      go_wp2_with (first | (go_at_call 18; refine stopAt ?_))
      have hf8t : Fr No w7 w10 := (hf8.trans HC.out).trans hf10
      have htl := SlIs.tail (H7.out.1.fr hf8t) (by omega)
      have hdl : (l.drop 1).length = K := by rw [List.length_drop]; omega
      have hc2 := closed_any (l := l.drop 1) (A := some ⟨g, 0 + rPt.sz, none⟩) (c := cap - 1) (w := w10) (by rw [List.length_drop]; exact htl)
      rw [HF.out.2.2.2.2.2.2.1, hdl] at hc2
      refine Hid.go ((show Calls Tryz.prog 18 #[.slice (some ⟨g, 5, none⟩) K (cap - 1)] w10 _ from hc2).mono ?_)
      rintro e w11 ⟨rfl, hf11⟩
      clear htl hc2 hdl
      go_wp2
      go_ret
      exact ⟨rfl, ((H7.out.2.1.trans hf8t).trans hf11)⟩
end Go.Proofs.YthnfkjcndidoaaaGreatDoor
