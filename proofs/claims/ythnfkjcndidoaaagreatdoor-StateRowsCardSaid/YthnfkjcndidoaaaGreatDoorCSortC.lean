import Derived.Test.YthnfkjcndidoaaaGreatDoorCSortB
import Derived.Sort.WalkB3
set_option linter.unusedVariables false
set_option linter.unusedSimpArgs false
namespace Go.Proofs.YthnfkjcndidoaaaGreatDoor
open Go.RowKit Go.Shelf Go.Sort
set_option maxHeartbeats 4000000 in
set_option maxRecDepth 100000 in
theorem heapSortU (g o cap len : Nat) (d : Array Nat) (hlen : d.size = len) (a b : Nat) (w : World) (hH : Holds encU w g o d) (hab : a ≤ b) (hb : b ≤ d.size) (hsz : d.size < 4611686018427387904) :
    Calls Tryz.prog 180 #[.slice (some ⟨g, o, none⟩) len cap, .int .i64 a, .int .i64 b] w fun e w' => e = .returned (.tuple #[]) ∧ Sw g o w (heapSort ltU d a b) w' := by
  subst hlen
  have HH := Lib.hid hH
  have H0 := Lib.hid (Sw.refl hH)
  have ecast : ((b - a : Nat) : Int) = (b : Int) - (a : Int) := by omega
  clear hH
  go_enter Tryz.func180, Tryz.ntmps180
  go_wp2
  go_loopg [9] ((b - a - 1) / 2 + 1) (fun k s9 wr => s9 = .int .i64 ((k : Int) - 1) ∧ k ≤ (b - a - 1) / 2 + 1 ∧ ∃ (dk : Array Nat), dk.size = d.size ∧ Hid (Sw g o w dk wr) ∧ Hid (heapBuild ltU (b - a) a k dk = heapBuild ltU (b - a) a ((b - a - 1) / 2 + 1) d))
  case atStart => exact ⟨by rw [half_start hab], Nat.le_refl _, d, rfl, H0, Lib.hid rfl⟩
  case round =>
    obtain ⟨rfl, hkk, dk, hds, hW, heq⟩ := hrel
    cases gk with
    | zero =>
      have hB : Hid (dk = heapBuild ltU (b - a) a ((b - a - 1) / 2 + 1) d) := heq
      clear heq hkk
      go_wp2
      obtain ⟨wz, hwz⟩ : ∃ wz : World, wz = wr := ⟨_, rfl⟩
      rw [← hwz] at hW ⊢
      clear hwz
      go_loopg [10] (b - a) (fun k s10 wr2 => s10 = .int .i64 ((k : Int) - 1) ∧ k ≤ b - a ∧ ∃ (dj : Array Nat), dj.size = d.size ∧ Hid (Sw g o w dj wr2) ∧ Hid (heapPop ltU a k dj = heapPop ltU a (b - a) dk))
      case atStart => exact ⟨by rw [ecast], Nat.le_refl _, dk, hds, hW, Lib.hid rfl⟩
      case round =>
        clear hW
        obtain ⟨rfl, hkk, dj, hdj, hW, heq2⟩ := hrel
        cases gk with
        | zero =>
          go_wp2
          go_end0
          refine ⟨rfl, ?_⟩
          have e : dj = heapSort ltU d a b := by rw [heapSort, ← hB.out, ← heq2.out]; rfl
          rw [← e]
          exact hW.out
        | succ k =>
          obtain ⟨G, hG, hcw, hfw⟩ := hW.out.fam HH.out hdj d.size rfl
          rcases Nat.eq_zero_or_pos k with hk0 | hkp
          · subst hk0
            go_wp2_with fail
            go_region
            go_wp2_with fail
            have hW2 := Lib.hid ((hW.out.swap (i := a) (j := a) (by omega) (by omega)).drew)
            simp only [encU, ← hG.out] at hW2
            refine (siftDownU g o cap d.size (swp dj a a) (by rw [size_swp]; exact hdj) 0 0 a _ (hW2.out.holds HH.out (by rw [size_swp]; exact hdj)) (Nat.zero_le _) (by rw [size_swp]; omega) (by rw [size_swp]; omega)).mono ?_
            rintro e w1 ⟨rfl, hw1⟩
            have hW3 := Lib.hid (hW2.out.step hw1 (by rw [size_siftDown ltU _ _ _ _ _ (Nat.le_refl _)]))
            clear hw1 hW2
            go_wp2
            go_roundg 0
            case measure => omega
            case rel => exact ⟨by simp, by omega, siftDown ltU 0 a 0 (swp dj a a), by rw [size_siftDown ltU _ _ _ _ _ (Nat.le_refl _), size_swp]; exact hdj, hW3, heq2⟩
          · skip
            go_wp2_with fail
            go_region
            go_wp2_with fail
            have hW2 := Lib.hid ((hW.out.swap (i := a) (j := a + k) (by omega) (by omega)).drew)
            simp only [encU, ← hG.out] at hW2
            refine (siftDownU g o cap d.size (swp dj a (a + k)) (by rw [size_swp]; exact hdj) 0 k a _ (hW2.out.holds HH.out (by rw [size_swp]; exact hdj)) (Nat.zero_le _) (by rw [size_swp]; omega) (by rw [size_swp]; omega)).mono ?_
            rintro e w1 ⟨rfl, hw1⟩
            have hW3 := Lib.hid (hW2.out.step hw1 (by rw [size_siftDown ltU _ _ _ _ _ (Nat.le_refl _)]))
            clear hw1 hW2
            go_wp2
            go_roundg k
            case measure => omega
            case rel => exact ⟨by simp, by omega, siftDown ltU k a 0 (swp dj a (a + k)), by rw [size_siftDown ltU _ _ _ _ _ (Nat.le_refl _), size_swp]; exact hdj, hW3, heq2⟩
    | succ k =>
      have hcall := Lib.hid (siftDownU g o cap d.size dk hds k (b - a) a wr (hW.out.holds HH.out hds) (by omega) (by omega) (by omega))
      rw [ecast] at hcall
      go_wp2_with (go_at_call 189; refine hcall.out.mono ?_; rintro e w1 ⟨rfl, hw1⟩)
      go_roundg k
      case measure => omega
      case rel => exact ⟨by simp, by omega, siftDown ltU (b - a) a k dk, by rw [size_siftDown ltU _ _ _ _ _ (Nat.le_refl _)]; exact hds, Lib.hid (hW.out.step hw1 (by rw [size_siftDown ltU _ _ _ _ _ (Nat.le_refl _)])), heq⟩

set_option maxHeartbeats 1600000 in
set_option maxRecDepth 100000 in
theorem reverseRangeU (g o cap : Nat) (d : Array Nat) (a b : Nat) (w : World) (hH : Holds encU w g o d) (hab : a ≤ b) (hb : b ≤ d.size) (hsz : d.size < 4611686018427387904) :
    Calls Tryz.prog 183 #[.slice (some ⟨g, o, none⟩) d.size cap, .int .i64 a, .int .i64 b] w fun e w' => e = .returned (.tuple #[]) ∧ Sw g o w (reverseRange d a b) w' := by
  have HH := Lib.hid hH
  have H0 := Lib.hid (Sw.refl hH)
  clear hH
  go_enter Tryz.func183, Tryz.ntmps183
  go_wp2
  go_loopg [6, 7] (b - a) (fun k s6 s7 wr => ∃ (i jn : Nat) (jz : Int) (dk : Array Nat), s6 = .int .i64 i ∧ s7 = .int .i64 jz ∧ ((i : Int) < jz → jz = jn ∧ jn < d.size) ∧ (¬ (i : Int) < jz → ¬ i < jn) ∧ jn - i ≤ k ∧
    dk.size = d.size ∧ Hid (Sw g o w dk wr) ∧ Hid (reverseLoop i jn dk = reverseLoop a (b - 1) d))
  case atStart => exact ⟨a, b - 1, (b : Int) - 1, d, rfl, rfl, fun h => ⟨by omega, by omega⟩, fun h => by omega, by omega, rfl, H0, Lib.hid rfl⟩
  case round =>
    obtain ⟨i, jn, jz, dk, rfl, rfl, h1, h2, hk, hds, hW, heq⟩ := hrel
    by_cases hlt : (i : Int) < jz
    · obtain ⟨rfl, hjn⟩ := h1 hlt
      have hij : i < jn := by omega
      obtain ⟨G, hG, hcw, hfw⟩ := hW.out.fam HH.out hds d.size rfl
      clear h1 h2
      go_wp2_with fail
      go_region
      go_wp2
      go_roundg (jn - 1 - (i + 1))
      case measure => omega
      case rel =>
        have he := heq.out
        rw [reverseLoop, if_pos hij] at he
        exact ⟨i + 1, jn - 1, (jn : Int) - 1, swp dk i jn, by simp, rfl, fun h => ⟨by omega, by omega⟩, fun h => by omega, Nat.le_refl _, by rw [size_swp]; exact hds,
          Lib.hid (by rw [hG.out, hG.out]; exact (hW.out.swap (i := i) (j := jn) (by omega) (by omega)).drew), Lib.hid he⟩
    · have hnot := h2 hlt
      go_wp2
      go_end0
      refine ⟨rfl, ?_⟩
      have he := heq.out
      rw [reverseLoop, if_neg hnot] at he
      rw [reverseRange, ← he]
      exact hW.out
end Go.Proofs.YthnfkjcndidoaaaGreatDoor
