import Derived.Test.YthnfkjcndidoaaaGreatDoorCIter2
import Derived.Test.YthnfkjcndidoaaaGreatDoorCRel4
set_option linter.unusedVariables false
set_option linter.unusedSimpArgs false
namespace Go.Proofs.YthnfkjcndidoaaaGreatDoor
open Go.RowKit Go.Shelf
attribute [local go_sem] Oper.semAt_some

/-! ### slices.Collect of lines -/
def lnCell (x : Ln) : List Value := [.int .u32 x.id.p, .int .i64 x.id.n, .string x.text, .bool x.dead]
def lnCells (l : List Ln) : List Value := l.flatMap lnCell
theorem lnCells_snoc (l : List Ln) (x : Ln) : lnCells (l ++ [x]) = lnCells l ++ [.int .u32 x.id.p, .int .i64 x.id.n, .string x.text, .bool x.dead] := by simp [lnCells, lnCell]
theorem info_line : (Tryz.prog.info? 47).map (fun i => (i.zero, i.size, i.bytes)) = some (some (.agg #[.int .u32 0, .int .i64 0, .string ⟨#[]⟩, .bool false]), 4, 40) := by kernel_rfl
set_option maxHeartbeats 1000000 in
set_option maxRecDepth 100000 in
theorem appendSeqLn {w w0 : World} {gf : Nat} {lb : Array Value} {xs : List Ln} {src : Nat → Prop} (hit : Iter Tryz.prog gf lb lnArgs xs src w0) (eg : Enters Tryz.prog gf) (hsrc : ∀ i, src i → i < w.heap.size ∧ w.heap[i]? = w0.heap[i]?) (hlen : xs.length ≤ 1000000) :
    Calls Tryz.prog 95 #[.slice none 0 0, .func (.func gf) #[] lb] w fun e w' =>
      ∃ v, e = .returned v ∧ w'.ownsRow w.heap.size 47 4 v xs.length (lnCells xs) ∧ Fr No w w' := by
  obtain ⟨i0, hi, hz0, hz1, hz2⟩ := info_parts info_line
  have HLEN := Lib.hid hlen
  have HS := Lib.hid hsrc
  clear hlen hsrc
  refine enterM Tryz.func95 rfl ?_
  simp only [Tryz.ntmps95, List.size_toArray, List.length_cons, List.length_nil, Nat.reduceAdd, Nat.reduceSub, Array.replicate_succ, Array.replicate_zero, List.push_toArray, List.append_toArray, List.nil_append, List.cons_append]
  go_wp2
  refine namedN (fun W1 hW1 => ?_)
  have bo : Box W1 w.heap.size 29 (.slice none 0 0) := by rw [hW1]; exact Box.new _ _ _
  have hsz : W1.heap.size = w.heap.size + 1 := by rw [hW1]; simp
  have hfr : Fr No w W1 := by rw [hW1]; exact Fr.alloc _ _ _
  clear hW1
  refine (wpIn_wide (n := 3)).1 (range_outer hit eg rfl (fun _ => rfl) (fun i hi => ⟨by have := (HS.out i hi).1; omega, (hfr.same i (HS.out i hi).1 (fun e => e)).trans (HS.out i hi).2⟩)
    (fun pre O W => ∃ v, O = (fun i => i = w.heap.size ∨ OwnO v i) ∧ Box W w.heap.size 29 v ∧ W.ownsRow w.heap.size 47 4 v pre.length (lnCells pre) ∧ Fr No w W)
    (fun _ _ _ _ => False) (fun i => i = w.heap.size ∨ OwnO (.slice none 0 0) i) ?hO ?hJ (fun _ _ _ _ _ h _ => h) ⟨_, rfl, bo, own_none _ _ _ _, hfr⟩ ?hround ?hdone (fun _ _ _ _ _ _ _ h _ _ => (h _ (Fr.refl _ _)).elim))
  case hO =>
    rintro i (rfl | hi)
    · exact ⟨by omega, fun e => by have := (HS.out _ e).1; omega⟩
    · exact (ownO_nil i hi).elim
  case hJ =>
    rintro s O A A' ⟨v, rfl, g1, g2, g3⟩ hf
    exact ⟨v, rfl, g1.fr hf (fun e => e.2 (.inl rfl)), own_fr g2 hf (fun i hi e => e.2 (.inr hi)), g3.comp hf (fun _ _ e => e) (fun i hi e => by omega)⟩
  case hround =>
    rintro l pre x rest O W hx hl1 hl2 ⟨v, rfl, g1, g2, g3⟩ hOl
    have hpl : pre.length < 1000000 := by
      have h1 := congrArg List.length hx
      have h2 := HLEN.out
      simp at h1
      omega
    refine keepK (fun K hK => ?_)
    simp only [lnArgs]
    gi_wp2
    refine hK.out _ _ ⟨Fr.alloc _ _ _, ?_⟩
    clear hK
    have hWs := g3.size
    clear g1 g2 g3 hx
    rintro W2 hf2 _ _ ⟨v, hOv, g1, g2, g3⟩
    rw [hOv]
    clear hOv
    have hline := hf2.heap (i := W.heap.size) (fun e => by omega) (heap_last W (.cells #[.int .u32 x.id.p, .int .i64 x.id.n, .string x.text, .bool x.dead] 47))
    have l0 := cell_of_heap hline 0
    have l1 := cell_of_heap hline 1
    have l2 := cell_of_heap hline 2
    have l3 := cell_of_heap hline 3
    have c1 := g1.cell
    have hbs : w.heap.size ≤ W2.heap.size := g3.size
    have B1 := Lib.hid (show pre.length + 1 ≤ maxLen by unfold maxLen; omega)
    have B2 := Lib.hid (show (pre.length + 1) * 40 ≤ 140737488355328 by omega)
    clear hpl hline
    refine keepQ (fun Q hQ => ?_)
    gi_wp2_with (gi_at_builtin; refine stopAt ?_)
    refine Hid.go (growIn rfl _ _ 29 rfl w.heap.size 47 i0 _ 4 40 Tryz.underlying29 hi hz0 hz1 hz2 rfl (by decide) v pre.length (lnCells pre) rfl (own_fr g2 (Fr.alloc No _ _) (fun _ _ e => e)) ⟨W2.heap.size, 0, none⟩ 1 1 [.int .u32 x.id.p, .int .i64 x.id.n, .string x.text, .bool x.dead] rfl rfl (new_cells _ _ _) (by simp [Value.oneCell']) (by decide) B1.out B2.out (by simp; omega) ?_)
    intro g cap w1 hown hfa hg hgl
    have b1 := (g1.old (.cells #[.int .u32 x.id.p, .int .i64 x.id.n, .string x.text, .bool x.dead] 47)).fr hfa (own_ne_box g2 g1 (by decide))
    have c2 := b1.cell
    have f2 := b1.frozen
    have hsA : (W2.alloc (.cells #[.int .u32 x.id.p, .int .i64 x.id.n, .string x.text, .bool x.dead] 47)).heap.size = W2.heap.size + 1 := by simp
    have HH := Lib.hid (And.intro hown (And.intro hfa (And.intro hg (And.intro hgl hsA))))
    clear hown hfa hg hgl hsA c1 l0 l1 l2 l3
    gi_wp2
    obtain ⟨hown, hfa, hg, hgl, hsA⟩ := HH.out
    have hfw : Fr (fun i => i = w.heap.size ∨ OwnO v i) W2 (w1.setCell ⟨w.heap.size, 0, none⟩ (.slice (some ⟨g, 0, none⟩) (pre.length + 1) cap)) :=
      ((Fr.alloc _ _ _).trans (hfa.mono (fun i _ e => .inr e))).trans ((Fr.set1 w1 w.heap.size 0 _).mono (fun i _ e => .inl e))
    have hgb : g ≠ w.heap.size := fun e => own_ne_box hown b1 (by decide) (ownO_slice.2 e)
    have hsW : (w1.setCell ⟨w.heap.size, 0, none⟩ (.slice (some ⟨g, 0, none⟩) (pre.length + 1) cap)).heap.size = w1.heap.size := by simp [World.setCell]
    refine hQ.out _ _ _ ⟨_, hfw, fun i hi => ?_, _, rfl, b1.set _, ?_, g3.comp hfw (fun _ _ e => e) (fun i hi e => ?_)⟩
    · rcases hi with rfl | hi
      · exact ⟨by rw [hsW]; exact b1.lt, .inl (.inl rfl)⟩
      · rw [ownO_slice] at hi
        subst hi
        exact ⟨by rw [hsW]; exact hgl, hg.imp .inr (fun e => by omega)⟩
    · rw [lnCells_snoc, List.length_append]
      exact own_fr hown (Fr.set1 _ _ _ _) (fun i hi e => hgb ((ownO_slice.1 hi).trans e))
    · rcases e with e | e
      · omega
      · have := (own_block g2 e).1; omega
  case hdone =>
    rintro O W hW hD hOD
    obtain ⟨v, _, g1, _, _⟩ := hW W (Fr.refl _ _)
    have c1 := g1.cell
    have HH := Lib.hid (And.intro hW hD)
    clear hW hD hOD g1
    go_wp2
    obtain ⟨hW, hD⟩ := HH.out
    refine ⟨by simp, .inl ⟨_, _, rfl, run_takeDeferred hD, ?_⟩⟩
    obtain ⟨v', hO', j1, j2, j3⟩ := hW _ (fr_putObj_one W _ (.deferred none))
    obtain rfl : v = v' := by
      have h1 := j1.cell
      have h2 : (W.putObj W1.heap.size (.deferred none)).cell? ⟨w.heap.size, 0, none⟩ = some v := (fr_putObj_one W W1.heap.size (.deferred none)).cell (fun e : w.heap.size = W1.heap.size => by omega) c1
      exact Option.some.inj (h2.symm.trans h1)
    exact ⟨_, results_tmp rfl _ _ _, v, rfl, j2, j3⟩
theorem collectLn {w w0 : World} {gf : Nat} {lb : Array Value} {xs : List Ln} {src : Nat → Prop} (hit : Iter Tryz.prog gf lb lnArgs xs src w0) (eg : Enters Tryz.prog gf) (hsrc : ∀ i, src i → i < w.heap.size ∧ w.heap[i]? = w0.heap[i]?) (hlen : xs.length ≤ 1000000) :
    Calls Tryz.prog 61 #[.func (.func gf) #[] lb] w fun e w' =>
      ∃ v, e = .returned v ∧ w'.ownsRow w.heap.size 47 4 v xs.length (lnCells xs) ∧ Fr No w w' := by
  have HC := Lib.hid (appendSeqLn hit eg hsrc hlen)
  clear hit eg hsrc hlen
  go_enter Tryz.func61, Tryz.ntmps61
  go_wp2_with (go_at_call 95; refine HC.out.mono ?_; rintro e w' ⟨v, rfl, h1, h2⟩)
  go_ret
  exact ⟨v, rfl, h1, h2⟩
end Go.Proofs.YthnfkjcndidoaaaGreatDoor
