import Derived.Test.YthnfkjcndidoaaaGreatDoorCSortD
import Derived.Sort.LotD4
set_option linter.unusedVariables false
set_option linter.unusedSimpArgs false
namespace Go.Proofs.YthnfkjcndidoaaaGreatDoor
open Go.RowKit Go.Shelf Go.Sort
theorem fr_own {w w' : World} (obj : Obj) (h : Fr (One w.heap.size) (w.alloc obj) w') : Fr No w w' := (Fr.alloc No w obj).comp h (fun _ _ e => e) (fun i hi e => by
  have : i = w.heap.size := e
  omega)
set_option maxHeartbeats 2000000 in
set_option maxRecDepth 100000 in
theorem choosePivotU (g o cap : Nat) (d : Array Nat) (a b : Nat) (w : World) (hH : Holds encU w g o d) (hgw : g < w.heap.size) (hab : a + 12 < b) (hb : b ≤ d.size) (hsz : d.size < 4611686018427387904) :
    Calls Tryz.prog 182 #[.slice (some ⟨g, o, none⟩) d.size cap, .int .i64 a, .int .i64 b] w fun e w' =>
      e = .returned (.tuple #[.int .i64 ((choosePivot ltU d a b).1 : Nat), .int .i64 (hintCode (choosePivot ltU d a b).2)]) ∧ Fr No w w' := by
  have hne : g ≠ w.heap.size := by omega
  have HH1 := Lib.hid (holds_fr hH (Fr.alloc No w (.cells #[.int .i64 0] 3)) (fun e => e))
  have B0 := Lib.hid (Box.new w 3 (.int .i64 0))
  have HD : Hid (d.size = d.size) := Lib.hid rfl
  clear hH
  rw [choosePivot_eq]
  obtain ⟨I, hI⟩ : ∃ I : Nat, I = a + (b - a) / 4 * 1 := ⟨_, rfl⟩
  obtain ⟨J, hJ⟩ : ∃ J : Nat, J = a + (b - a) / 4 * 2 := ⟨_, rfl⟩
  obtain ⟨K, hK⟩ : ∃ K : Nat, K = a + (b - a) / 4 * 3 := ⟨_, rfl⟩
  have eI : ((a : Int) + ((b : Int) - (a : Int)) / 4) = (I : Int) := by omega
  have eJ : ((a : Int) + ((b : Int) - (a : Int)) / 4 * 2) = (J : Int) := by omega
  have eK : ((a : Int) + ((b : Int) - (a : Int)) / 4 * 3) = (K : Int) := by omega
  have h8 : b - a ≥ 8 := by omega
  by_cases h50 : b - a ≥ 50
  · obtain ⟨i1, s1, h1⟩ : ∃ i1 s1, medianAdjacent ltU d I 0 = (i1, s1) := ⟨_, _, rfl⟩
    obtain ⟨j1, s2, h2⟩ : ∃ j1 s2, medianAdjacent ltU d J s1 = (j1, s2) := ⟨_, _, rfl⟩
    obtain ⟨k1, s3, h3⟩ : ∃ k1 s3, medianAdjacent ltU d K s2 = (k1, s3) := ⟨_, _, rfl⟩
    obtain ⟨p, s, h4⟩ : ∃ p s, median ltU d i1 j1 k1 s3 = (p, s) := ⟨_, _, rfl⟩
    have hraw : rawPivot ltU d a b = (p, s) := by simp only [rawPivot, if_pos h8, if_pos h50, ← hI, ← hJ, ← hK, h1, h2, h3, h4]
    have m1 := medianAdjacent_ltU d (a := I) (n := d.size) 0 (by omega) (by omega); rw [h1] at m1
    have m2 := medianAdjacent_ltU d (a := J) (n := d.size) s1 (by omega) (by omega); rw [h2] at m2
    have m3 := medianAdjacent_ltU d (a := K) (n := d.size) s2 (by omega) (by omega); rw [h3] at m3
    simp only [] at m1 m2 m3
    have c1 := medianAdjacentU g o cap d.size d rfl I w.heap.size 0 _ HH1.out (by omega) (by omega) hsz B0.out (by omega) hne
    have c2 : ∀ W, Fr (One w.heap.size) (w.alloc (.cells #[.int .i64 0] 3)) W → Box W w.heap.size 3 (.int .i64 s1) → _ := fun W hf hB => medianAdjacentU g o cap d.size d rfl J w.heap.size s1 W (holds_fr HH1.out hf hne) (by omega) (by omega) hsz hB (by omega) hne
    have c3 : ∀ W, Fr (One w.heap.size) (w.alloc (.cells #[.int .i64 0] 3)) W → Box W w.heap.size 3 (.int .i64 s2) → _ := fun W hf hB => medianAdjacentU g o cap d.size d rfl K w.heap.size s2 W (holds_fr HH1.out hf hne) (by omega) (by omega) hsz hB (by omega) hne
    have c4 : ∀ W, Fr (One w.heap.size) (w.alloc (.cells #[.int .i64 0] 3)) W → Box W w.heap.size 3 (.int .i64 s3) → _ := fun W hf hB => medianU g o cap d.size d rfl i1 j1 k1 w.heap.size s3 W (holds_fr HH1.out hf hne) m1.1 m2.1 m3.1 hB (by omega) hne
    rw [h1] at c1
    rw [h2] at c2
    rw [h3] at c3
    rw [h4] at c4
    have C1 := Lib.hid c1
    have C2 := Lib.hid c2
    have C3 := Lib.hid c3
    have C4 := Lib.hid c4
    clear c1 c2 c3 c4
    rw [hraw]
    obtain ⟨Hc, hHc⟩ : ∃ Hc : Int, Hc = hintCode (hintOf s) := ⟨_, rfl⟩
    have hh0 := Lib.hid (show s = 0 → Hc = 1 from fun h => by rw [hHc, h]; rfl)
    have hh12 := Lib.hid (show s = 12 → Hc = 2 from fun h => by rw [hHc, h]; rfl)
    have hhx := Lib.hid (show s ≠ 0 → s ≠ 12 → Hc = 0 from fun h1 h2 => by rw [hHc]; unfold hintOf; rw [if_neg h1, if_neg h2]; rfl)
    show Calls Tryz.prog 182 _ w fun e w' => e = .returned (.tuple #[.int .i64 (p : Int), .int .i64 (hintCode (hintOf s))]) ∧ Fr No w w'
    rw [← hHc]
    clear hHc hraw
    clear h1 h2 h3 h4 hI hJ hK m1 m2 m3 HH1 B0
    go_enter Tryz.func182, Tryz.ntmps182
    go_wp2_with fail
    refine C1.out.mono ?_
    rintro e w1 ⟨rfl, hB1, hf1⟩
    have HB1 := Lib.hid hB1
    have HF1 := Lib.hid hf1
    clear hB1 hf1
    go_wp2_with fail
    refine (C2.out w1 HF1.out HB1.out).mono ?_
    rintro e w2 ⟨rfl, hB2, hf2⟩
    have HB2 := Lib.hid hB2
    have HF2 := Lib.hid (HF1.out.trans hf2)
    clear hB2 hf2
    go_wp2_with fail
    refine (C3.out w2 HF2.out HB2.out).mono ?_
    rintro e w3 ⟨rfl, hB3, hf3⟩
    have HB3 := Lib.hid hB3
    have HF3 := Lib.hid (HF2.out.trans hf3)
    clear hB3 hf3
    go_wp2_with fail
    refine (C4.out w3 HF3.out HB3.out).mono ?_
    rintro e w4 ⟨rfl, hB4, hf4⟩
    have HF4 := Lib.hid (HF3.out.trans hf4)
    have c0 := hB4.cell
    clear hf4 hB4
    go_wp2
    all_goals
      go_ret2
      refine ⟨?_, fr_own _ HF4.out⟩
      first
        | (have e0 : (s : Int) = 0 := by simpa using (show ((s : Int) == 0) = true by assumption)
           rw [hh0.out (by omega)]; rfl)
        | (have e1 : (s : Int) = 12 := by simpa using (show ((s : Int) == 12) = true by assumption)
           rw [hh12.out (by omega)]; rfl)
        | (have e0 : (s : Int) ≠ 0 := by simpa using (show ((s : Int) == 0) = false by assumption)
           have e1 : (s : Int) ≠ 12 := by simpa using (show ((s : Int) == 12) = false by assumption)
           rw [hhx.out (by omega) (by omega)]; rfl)
        | (rw [hh0.out (by omega)]; rfl)
  · obtain ⟨p, s, h4⟩ : ∃ p s, median ltU d I J K 0 = (p, s) := ⟨_, _, rfl⟩
    have hraw : rawPivot ltU d a b = (p, s) := by simp only [rawPivot, if_pos h8, if_neg h50, ← hI, ← hJ, ← hK, h4]
    have c4 := medianU g o cap d.size d rfl I J K w.heap.size 0 _ HH1.out (by omega) (by omega) (by omega) B0.out (by omega) hne
    rw [h4] at c4
    have C4 := Lib.hid c4
    clear c4
    rw [hraw]
    obtain ⟨Hc, hHc⟩ : ∃ Hc : Int, Hc = hintCode (hintOf s) := ⟨_, rfl⟩
    have hh0 := Lib.hid (show s = 0 → Hc = 1 from fun h => by rw [hHc, h]; rfl)
    have hh12 := Lib.hid (show s = 12 → Hc = 2 from fun h => by rw [hHc, h]; rfl)
    have hhx := Lib.hid (show s ≠ 0 → s ≠ 12 → Hc = 0 from fun h1 h2 => by rw [hHc]; unfold hintOf; rw [if_neg h1, if_neg h2]; rfl)
    show Calls Tryz.prog 182 _ w fun e w' => e = .returned (.tuple #[.int .i64 (p : Int), .int .i64 (hintCode (hintOf s))]) ∧ Fr No w w'
    rw [← hHc]
    clear hHc hraw
    clear h4 hI hJ hK HH1 B0
    go_enter Tryz.func182, Tryz.ntmps182
    go_wp2_with fail
    refine C4.out.mono ?_
    rintro e w4 ⟨rfl, hB4, hf4⟩
    have HF4 := Lib.hid hf4
    have c0 := hB4.cell
    clear hf4 hB4
    go_wp2
    all_goals
      go_ret2
      refine ⟨?_, fr_own _ HF4.out⟩
      first
        | (have e0 : (s : Int) = 0 := by simpa using (show ((s : Int) == 0) = true by assumption)
           rw [hh0.out (by omega)]; rfl)
        | (have e1 : (s : Int) = 12 := by simpa using (show ((s : Int) == 12) = true by assumption)
           rw [hh12.out (by omega)]; rfl)
        | (have e0 : (s : Int) ≠ 0 := by simpa using (show ((s : Int) == 0) = false by assumption)
           have e1 : (s : Int) ≠ 12 := by simpa using (show ((s : Int) == 12) = false by assumption)
           rw [hhx.out (by omega) (by omega)]; rfl)
        | (rw [hh0.out (by omega)]; rfl)
end Go.Proofs.YthnfkjcndidoaaaGreatDoor
