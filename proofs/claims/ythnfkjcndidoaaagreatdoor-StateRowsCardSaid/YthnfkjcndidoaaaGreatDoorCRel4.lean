import Derived.Test.YthnfkjcndidoaaaGreatDoorCRel3
import Derived.Test.YthnfkjcndidoaaaGreatDoorCGrow
set_option linter.unusedVariables false
set_option linter.unusedSimpArgs false
namespace Go.Proofs.YthnfkjcndidoaaaGreatDoor
open Go.RowKit Go.Shelf
attribute [local go_sem] Oper.semAt_some

def pairCells (l : List (Nat × Nat)) : List Value := l.flatMap fun p => [.int .i64 p.1, .int .i64 p.2]
theorem pairCells_snoc (l : List (Nat × Nat)) (p : Nat × Nat) : pairCells (l ++ [p]) = pairCells l ++ [.int .i64 p.1, .int .i64 p.2] := by simp [pairCells]
theorem info_pair : (Tryz.prog.info? 84).map (fun i => (i.zero, i.size, i.bytes)) = some (some (.agg #[.int .i64 0, .int .i64 0]), 2, 16) := by kernel_rfl
theorem bitsUp_len (x : Nat) : (bitsUp x).length ≤ 64 := Nat.le_trans (List.length_filter_le _ _) (by simp)
theorem pairsTo_len (xs : List Nat) : ∀ k, (pairsTo xs k).length ≤ k * 64
  | 0 => by simp [pairsTo]
  | k + 1 => by
    have := pairsTo_len xs k
    have h2 := bitsUp_len (xs.getD k 0)
    rw [pairsTo_succ, List.length_append, rowPairs, List.length_map]
    omega

set_option maxHeartbeats 1000000 in
set_option maxRecDepth 100000 in
theorem relPairs {w : World} {br ba : Nat} {bs : List (Nat × Nat)} {xs : List Nat} (h : RelIs w br ba bs xs) (hT : Tab w) : Calls Tryz.prog 69 #[.pointer (some ⟨br, 0, none⟩)] w fun e w' =>
    ∃ v, e = .returned v ∧ w'.ownsRow w.heap.size 84 2 v (relPairsL xs).length (pairCells (relPairsL xs)) ∧ Fr No w w' := by
  have H := Lib.hid h
  have HT := Lib.hid hT
  have hlen : (relPairsL xs).length ≤ 4096 := by
    have h1 := pairsTo_len xs xs.length
    have h2 := h.le
    unfold relPairsL
    omega
  have hRlt := h.lt
  have hTl := hT.lt
  have hbr := hRlt br (by simp [relBlocks])
  obtain ⟨i0, hi, hz0, hz1, hz2⟩ := info_parts info_pair
  have HLEN := Lib.hid hlen
  clear h hT hlen
  refine enterM Tryz.func69 rfl ?_
  simp only [Tryz.ntmps69, List.size_toArray, List.length_cons, List.length_nil, Nat.reduceAdd, Nat.reduceSub, Array.replicate_succ, Array.replicate_zero, List.push_toArray, List.append_toArray, List.nil_append, List.cons_append]
  go_wp2_with (go_at_call 108; refine (relEach _ _).mono ?_; rintro e w' ⟨rfl, rfl⟩)
  refine namedN (fun W1 hW1 => ?_)
  have bo : Box W1 w.heap.size 30 (.slice none 0 0) := by rw [hW1]; exact (Box.new _ _ _).old _
  have bE : Box W1 (w.heap.size + 1) 107 (.pointer (some ⟨br, 0, none⟩)) := by
    rw [hW1]
    have := Box.new (w.alloc (.cells #[.slice none 0 0] 30)) 107 (.pointer (some ⟨br, 0, none⟩))
    rwa [World.size_alloc] at this
  have hsz : W1.heap.size = w.heap.size + 1 + 1 := by rw [hW1]; simp
  have hfr : Fr No w W1 := by rw [hW1]; exact (Fr.alloc _ _ _).trans (Fr.alloc _ _ _)
  clear hW1
  refine (wpIn_wide (n := 3)).1 (range_outer (relEach_iter (H.out.fr hfr (fun _ _ e => e)) bE (HT.out.fr hfr (fun e => e))) enters_relEach1 rfl (fun _ => rfl) (fun i hi => ⟨?_, rfl⟩)
    (fun pre O W => ∃ v, O = (fun i => i = w.heap.size ∨ OwnO v i) ∧ Box W w.heap.size 30 v ∧ W.ownsRow w.heap.size 84 2 v pre.length (pairCells pre) ∧ Fr No w W)
    (fun _ _ _ _ => False) (fun i => i = w.heap.size ∨ OwnO (.slice none 0 0) i) ?hO ?hJ (fun _ _ _ _ _ h _ => h) ⟨_, rfl, bo, own_none _ _ _ _, hfr⟩ ?hround ?hdone (fun _ _ _ _ _ _ _ h _ _ => (h _ (Fr.refl _ _)).elim))
  · rcases hi with rfl | hi | rfl
    · omega
    · have := hRlt i hi; omega
    · omega
  case hO =>
    rintro i (rfl | hi)
    · refine ⟨by omega, fun e => ?_⟩
      rcases e with e | e | e
      · omega
      · have := hRlt _ e; omega
      · omega
    · exact (ownO_nil i hi).elim
  case hJ =>
    rintro s O A A' ⟨v, rfl, g1, g2, g3⟩ hf
    exact ⟨v, rfl, g1.fr hf (fun e => e.2 (.inl rfl)), own_fr g2 hf (fun i hi e => e.2 (.inr hi)), g3.comp hf (fun _ _ e => e) (fun i hi e => by omega)⟩
  case hround =>
    rintro l pre p rest O W hx hl1 hl2 ⟨v, rfl, g1, g2, g3⟩ hOl
    have hpl : pre.length < 4096 := by
      have h1 := congrArg List.length hx
      have h2 := HLEN.out
      simp at h1
      omega
    refine keepK (fun K hK => ?_)
    gi_wp2
    refine hK.out _ _ ⟨Fr.refl _ _, ?_⟩
    clear hK g1 g2 g3 hx
    rintro W2 hf2 _ _ ⟨v, hOv, g1, g2, g3⟩
    rw [hOv]
    clear hOv
    have c1 := g1.cell
    have hbs : w.heap.size ≤ W2.heap.size := g3.size
    have B1 := Lib.hid (show pre.length + 1 ≤ maxLen by unfold maxLen; omega)
    have B2 := Lib.hid (show (pre.length + 1) * 16 ≤ 140737488355328 by omega)
    clear hpl
    refine keepQ (fun Q hQ => ?_)
    gi_wp2_with (gi_at_builtin; refine stopAt ?_)
    refine Hid.go (growIn rfl _ _ 30 rfl w.heap.size 84 i0 _ 2 16 Tryz.underlying30 hi hz0 hz1 hz2 rfl (by decide) v pre.length (pairCells pre) rfl (own_fr g2 (Fr.alloc No _ _) (fun _ _ e => e)) ⟨W2.heap.size, 0, none⟩ 1 1 [.int .i64 p.1, .int .i64 p.2] rfl rfl (new_cells _ _ _) (by simp [Value.oneCell']) (by decide) B1.out B2.out (by simp; omega) ?_)
    intro g cap w1 hown hfa hg hgl
    have b1 := (g1.old (.cells #[.int .i64 p.1, .int .i64 p.2] 84)).fr hfa (own_ne_box g2 g1 (by decide))
    have c2 := b1.cell
    have f2 := b1.frozen
    have hsA : (W2.alloc (.cells #[.int .i64 p.1, .int .i64 p.2] 84)).heap.size = W2.heap.size + 1 := by simp
    have HH := Lib.hid (And.intro hown (And.intro hfa (And.intro hg (And.intro hgl hsA))))
    clear hown hfa hg hgl hsA c1
    gi_wp2
    obtain ⟨hown, hfa, hg, hgl, hsA⟩ := HH.out
    have hfw : Fr (fun i => i = w.heap.size ∨ OwnO v i) W2 (w1.setCell ⟨w.heap.size, 0, none⟩ (.slice (some ⟨g, 0, none⟩) (pre.length + 1) cap)) :=
      ((Fr.alloc _ _ _).trans (hfa.mono (fun i _ e => .inr e))).trans ((Fr.set1 w1 w.heap.size 0 _).mono (fun i _ e => .inl e))
    have hgb : g ≠ w.heap.size := fun e => own_ne_box hown b1 (by decide) (ownO_slice.2 e)
    have hsW : (w1.setCell ⟨w.heap.size, 0, none⟩ (.slice (some ⟨g, 0, none⟩) (pre.length + 1) cap)).heap.size = w1.heap.size := by simp [World.setCell]
    refine hQ.out _ _ _ ⟨_, hfw, fun i hi => ?_, _, rfl, b1.set _, ?_, g3.comp hfw (fun _ _ e => e) (fun i hi e => ?_)⟩
    · rcases hi with rfl | hi
      · exact ⟨by rw [hsW]; exact b1.lt, .inl (.inl rfl)⟩
      · rw [ownO_slice] at hi
        subst hi
        exact ⟨by rw [hsW]; exact hgl, hg.imp .inr (fun e => by omega)⟩
    · rw [pairCells_snoc, List.length_append]
      exact own_fr hown (Fr.set1 _ _ _ _) (fun i hi e => hgb ((ownO_slice.1 hi).trans e))
    · rcases e with e | e
      · omega
      · have := (own_block g2 e).1; omega
  case hdone =>
    rintro O W hW hD hOD
    obtain ⟨v, _, g1, _, _⟩ := hW W (Fr.refl _ _)
    have c1 := g1.cell
    have HH := Lib.hid (And.intro hW hD)
    clear hW hD hOD g1
    go_wp2
    obtain ⟨hW, hD⟩ := HH.out
    refine ⟨by simp, .inl ⟨_, _, rfl, run_takeDeferred hD, ?_⟩⟩
    obtain ⟨v', hO', j1, j2, j3⟩ := hW _ (fr_putObj_one W _ (.deferred none))
    obtain rfl : v = v' := by
      have h1 := j1.cell
      have h2 : (W.putObj W1.heap.size (.deferred none)).cell? ⟨w.heap.size, 0, none⟩ = some v := (fr_putObj_one W W1.heap.size (.deferred none)).cell (fun e : w.heap.size = W1.heap.size => by omega) c1
      exact Option.some.inj (h2.symm.trans h1)
    exact ⟨_, results_tmp rfl _ _ _, v, rfl, j2, j3⟩
end Go.Proofs.YthnfkjcndidoaaaGreatDoor
