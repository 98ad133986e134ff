import Derived.Test.YthnfkjcndidoaaaGreatDoorCHunk
import Derived.Sort.WalkA
import Derived.Sort.WalkB2
import Derived.Sort.WalkA6
import Derived.Sort.WalkC
import Derived.Sort.WalkC4
import Derived.Sort.Walk13a
import Derived.Sort.Walk7
import Derived.Sort.AssemblyPlain
import Derived.BigGuard
import Derived.BigCall
import Derived.CellFam
import Derived.Deep.Draws
import Derived.Deep.QuietTactic
import Derived.Deep.LoopGhost
import Derived.BigQuiet
set_option linter.unusedVariables false
set_option linter.unusedSimpArgs false
namespace Go.Proofs.YthnfkjcndidoaaaGreatDoor
open Go.RowKit Go.Shelf Go.Sort

/-! ### Sorting whole numbers of 32 bits -/
abbrev encU : Nat → Value := fun x => Value.int .u32 x
def ltU (x y : Nat) : Bool := decide (x < y)
theorem ltU_int (x y : Nat) : decide ((x : Int) < (y : Int)) = ltU x y := by simp [ltU]
/-- From w0 on only the row (block g, from o on) has turned: it holds d now. -/
structure Sw (g o : Nat) (w0 : World) (d : Array Nat) (w : World) : Prop where
  fr : Fr (One g) w0 w
  row : w.heap[g]? = (putRow encU w0 g o d).heap[g]?
section
variable {g o : Nat} {w0 w w' : World} {d d' d0 : Array Nat}
theorem Sw.refl (h : Holds encU w g o d) : Sw g o w d w := ⟨Fr.refl _ _, by rw [putRow_self encU w g o d h]⟩
theorem Sw.world (h : Sw g o w0 d w) (p : Addr) (hp : p.block = g) : w.cell? p = (putRow encU w0 g o d).cell? p ∧ w.frozen? p = (putRow encU w0 g o d).frozen? p := by
  subst hp
  have := h.row
  unfold World.cell? World.frozen?
  rw [this]
  exact ⟨rfl, rfl⟩
theorem Sw.holds (h : Sw g o w0 d w) (h0 : Holds encU w0 g o d0) (hs : d.size = d0.size) : Holds encU w g o d := fun j hj => by
  obtain ⟨a, b⟩ := h.world ⟨g, o + j, none⟩ rfl
  rw [a, b]
  exact holds_putRow encU w0 g o d0 d h0 hs j hj
theorem Sw.quiet (h : Sw g o w0 d w) (hq : Fr No w w') (hg : g < w.heap.size) : Sw g o w0 d w' := ⟨h.fr.no hq, (hq.same g hg (fun e => e)).trans h.row⟩
theorem Sw.drewN (h : Sw g o w0 d w) (n : Nat) : Sw g o w0 d (w.drewN n) := ⟨h.fr.trans (Fr.drewN _ _ _), h.row⟩
theorem Sw.drew (h : Sw g o w0 d w) : Sw g o w0 d w.drew := ⟨h.fr.trans (Fr.drew _ _), h.row⟩
theorem putRow_row {w1 : World} (h : w1.heap[g]? = (putRow encU w0 g o d).heap[g]?) (hs : d'.size = d.size) : (putRow encU w1 g o d').heap[g]? = (putRow encU w0 g o d').heap[g]? := by
  rw [← putRow_putRow encU w0 g o d d' hs]
  show ((w1.heap.modify g _)[g]?) = (((putRow encU w0 g o d).heap.modify g _)[g]?)
  rw [Array.getElem?_modify, Array.getElem?_modify, h]
theorem Sw.step (h : Sw g o w0 d w) (k : Sw g o w d' w') (hs : d'.size = d.size) : Sw g o w0 d' w' := ⟨h.fr.trans k.fr, k.row.trans (putRow_row h.row hs)⟩
theorem Sw.swap (h : Sw g o w0 d w) {i j : Nat} (hi : i < d.size) (hj : j < d.size) : Sw g o w0 (swp d i j) ((w.setCell ⟨g, o + i, none⟩ (encU d[j]!)).setCell ⟨g, o + j, none⟩ (encU d[i]!)) := by
  refine ⟨h.fr.trans ((Fr.set1 _ _ _ _).trans (Fr.set1 _ _ _ _)), ?_⟩
  rw [← putRow_swp encU w0 g o d i j hi hj]
  simp only [World.setCell, Array.getElem?_modify, h.row]
theorem Sw.swapN (h : Sw g o w0 d w) (q : Nat) {i j : Nat} (hi : i < d.size) (hj : j < d.size) : Sw g o w0 (swp d i j) (((w.drewN q).setCell ⟨g, o + i, none⟩ (encU d[j]!)).setCell ⟨g, o + j, none⟩ (encU d[i]!)) := (h.drewN q).swap hi hj
/-- What a walk is given of the row. -/
theorem Sw.fam (h : Sw g o w0 d w) (h0 : Holds encU w0 g o d0) (hs : d.size = d0.size) (n : Nat) (hn : d0.size = n) : ∃ G : Nat → Nat, Hid (∀ t, G t = d[t]!) ∧ (∀ t, t < n → w.cell? ⟨g, o + t, none⟩ = some (.int .u32 (G t))) ∧ (∀ t, t < n → w.frozen? ⟨g, o + t, none⟩ = false) :=
  ⟨fun t => d[t]!, Lib.hid fun _ => rfl, fun t ht => (h.holds h0 hs t (by omega)).1, fun t ht => (h.holds h0 hs t (by omega)).2⟩
end
theorem isNaNU (w : World) (x : Nat) : Calls Tryz.prog 143 #[.int .u32 x] w fun e w' => e = .returned (.bool false) ∧ w' = w := by
  go_enter Tryz.func143, Tryz.ntmps143
  go_wp2
  go_ret
  exact ⟨rfl, rfl⟩
theorem lessU (w : World) (x y : Nat) : Calls Tryz.prog 185 #[.int .u32 x, .int .u32 y] w fun e w' => e = .returned (.bool (ltU x y)) ∧ w' = w := by
  go_enter Tryz.func185, Tryz.ntmps185
  go_wp2_with (go_at_call 143; refine (isNaNU w x).mono ?_; rintro e w' ⟨rfl, rfl⟩)
  go_ret
  exact ⟨rfl, rfl⟩

set_option maxHeartbeats 2000000 in
set_option maxRecDepth 100000 in
theorem insertionSortU (g o cap a b : Nat) (d : Array Nat) (w : World) (hH : Holds encU w g o d) (hab : a ≤ b) (hb : b ≤ d.size) (hsz : d.size < 4611686018427387904) :
    Calls Tryz.prog 179 #[.slice (some ⟨g, o, none⟩) d.size cap, .int .i64 a, .int .i64 b] w fun e w' => e = .returned (.tuple #[]) ∧ Sw g o w (Sort.insertionSort ltU d a b) w' := by
  have HH := Lib.hid hH
  have H0 := Lib.hid (Sw.refl hH)
  clear hH
  go_enter Tryz.func179, Tryz.ntmps179
  go_wp2
  go_loopw [6] (fun vi wr => ∃ (i : Nat) (dk : Array Nat), vi = .int .i64 i ∧ a < i ∧ i ≤ b + 1 ∧ dk.size = d.size ∧ Hid (Sw g o w dk wr) ∧ Hid (insOuter ltU a b i dk = insOuter ltU a b (a + 1) d)) (fun vi _ => b + 1 - (intOf vi).toNat)
  case atStart => exact ⟨a + 1, d, by go_num, by omega, by omega, rfl, H0, Lib.hid rfl⟩
  case round =>
    obtain ⟨i, dk, rfl, hai, hib, hsk, hW, hO⟩ := hrel
    by_cases hlt : i < b
    · go_wp2
      go_loopw [7] (fun vj wr2 => ∃ (j : Nat) (dj : Array Nat), vj = .int .i64 j ∧ a ≤ j ∧ j ≤ i ∧ dj.size = d.size ∧ Hid (Sw g o w dj wr2) ∧ Hid (insInner ltU a j dj = insInner ltU a i dk)) (fun vj _ => (intOf vj).toNat)
      case atStart => exact ⟨i, dk, rfl, by omega, Nat.le_refl _, hsk, hW, Lib.hid rfl⟩
      case round =>
        clear hW
        obtain ⟨j, dj, rfl, haj, hji, hsj, hW, hI⟩ := hrel
        obtain ⟨G, hG, hcw, hfw⟩ := hW.out.fam HH.out hsj d.size rfl
        by_cases hja : a < j
        · go_wp2
          go_quiet (first | (go_at_call 185; refine Calls.quiet_of_same (lessU _ _ _)))
          go_wp2
          · have hl : ltU (G j) (G (j - 1)) = true := by assumption
            go_region
            all_goals go_wp2
            go_roundw
            case rel =>
              refine ⟨j - 1, swp dj j (j - 1), by congr 1; omega, by omega, by omega, by rw [size_swp]; exact hsj, ?_, ?_⟩
              · rw [hG.out, hG.out]
                exact Lib.hid ((hW.out.swapN _ (i := j) (j := j - 1) (by omega) (by omega)))
              · exact Lib.hid (by rw [← hI.out, insInner_go ltU a j dj hja (by rw [← hG.out, ← hG.out]; exact hl)])
            case measure => simp [intOf]; omega
          · have hl : ltU (G j) (G (j - 1)) = false := by assumption
            go_roundw
            case rel => exact ⟨i + 1, dj, by go_num, by omega, by omega, hsj, Lib.hid (hW.out.drewN _), Lib.hid (by rw [← hO.out, insOuter_go _ _ _ _ _ hlt, ← hI.out, insInner_stop _ _ _ _ (Or.inr (by rw [← hG.out, ← hG.out]; exact hl))])⟩
            case measure => simp [intOf]; omega
        · go_wp2
          go_quiet (first | (go_at_call 185; refine Calls.quiet_of_same (lessU _ _ _)))
          go_wp2
          go_roundw
          case rel => exact ⟨i + 1, dj, by go_num, by omega, by omega, hsj, Lib.hid (hW.out.drewN _), Lib.hid (by rw [← hO.out, insOuter_go _ _ _ _ _ hlt, ← hI.out, insInner_stop _ _ _ _ (Or.inl (by omega))])⟩
          case measure => simp [intOf]; omega
    · go_wp2
      go_end0
      exact ⟨rfl, by unfold Sort.insertionSort; rw [← hO.out, insOuter_stop _ _ _ _ _ hlt]; exact hW.out⟩
end Go.Proofs.YthnfkjcndidoaaaGreatDoor
