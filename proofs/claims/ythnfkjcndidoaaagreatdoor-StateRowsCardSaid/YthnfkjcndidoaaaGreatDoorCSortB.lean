import Derived.Test.YthnfkjcndidoaaaGreatDoorCSortA
set_option linter.unusedVariables false
set_option linter.unusedSimpArgs false
namespace Go.Proofs.YthnfkjcndidoaaaGreatDoor
open Go.RowKit Go.Shelf Go.Sort
set_option maxHeartbeats 4000000 in
set_option maxRecDepth 100000 in
theorem siftDownU (g o cap len : Nat) (d : Array Nat) (hlen : d.size = len) (lo hi first : Nat) (w : World) (hH : Holds encU w g o d) (hlo : lo ≤ hi) (hb : first + hi ≤ d.size) (hsz : d.size < 4611686018427387904) :
    Calls Tryz.prog 189 #[.slice (some ⟨g, o, none⟩) len cap, .int .i64 lo, .int .i64 hi, .int .i64 first] w fun e w' => e = .returned (.tuple #[]) ∧ Sw g o w (siftDown ltU hi first lo d) w' := by
  subst hlen
  have HH := Lib.hid hH
  have H0 := Lib.hid (Sw.refl hH)
  clear hH
  go_enter Tryz.func189, Tryz.ntmps189
  go_wp2
  go_loopg [8] (hi - lo) (fun k s8 wr => ∃ (root : Nat) (dk : Array Nat), s8 = .int .i64 root ∧ root ≤ hi ∧ hi - root ≤ k ∧ dk.size = d.size ∧ Hid (Sw g o w dk wr) ∧ Hid (siftDown ltU hi first root dk = siftDown ltU hi first lo d))
  case atStart => exact ⟨lo, d, rfl, hlo, Nat.le_refl _, rfl, H0, Lib.hid rfl⟩
  case round =>
    obtain ⟨root, dk, rfl, hr, hk, hds, hW, heq⟩ := hrel
    obtain ⟨G, hG, hcw, hfw⟩ := hW.out.fam HH.out hds d.size rfl
    by_cases h0 : hi ≤ 2 * root + 1
    · have h0z : (hi : Int) ≤ 2 * (root : Int) + 1 := by omega
      go_wp2
      go_end0
      refine ⟨rfl, ?_⟩
      rw [← heq.out, sd_end ltU dk h0]
      exact hW.out
    · have h0z : ¬ ((hi : Int) ≤ 2 * (root : Int) + 1) := by omega
      by_cases h1 : 2 * root + 2 < hi
      · have h1z : 2 * (root : Int) + 1 + 1 < (hi : Int) := by omega
        go_wp2_with fail
        go_big_quiet (first | (go_at_call 185; refine Calls.quiet_of_same (lessU _ _ _)))
        go_wp2_with fail
        · have hL0 : ltU (G (first + 2 * root + 1)) (G (first + 2 * root + 2)) = true := by assumption
          have hL : Hid (ltU dk[first + (2 * root + 1)]! dk[first + (2 * root + 2)]! = true) := Lib.hid (by rw [hG.out, hG.out] at hL0; exact hL0)
          obtain ⟨w2, h_w2⟩ : ∃ w2 : World, w2 = World.drewN wr nq := ⟨_, rfl⟩
          have hW_w2 : Hid (Sw g o w dk w2) := Lib.hid (by rw [h_w2]; exact hW.out.drewN _)
          have hc_w2 : ∀ t, t < d.size → w2.cell? ⟨g, o + t, none⟩ = some (.int .u32 (G t)) := fun t ht => by rw [h_w2]; exact hcw t ht
          have hf_w2 : ∀ t, t < d.size → w2.frozen? ⟨g, o + t, none⟩ = false := fun t ht => by rw [h_w2]; exact hfw t ht
          rw [← h_w2]
          clear h_w2 hcw hfw hW nq
          go_big_quiet (first | (go_at_call 185; refine Calls.quiet_of_same (lessU _ _ _)))
          go_wp2_with fail
          · have hS : ltU (G (first + root)) (G (first + 2 * root + 2)) = false := by
              have : (!ltU (G (first + root)) (G (first + 2 * root + 2))) = true := by assumption
              simpa using this
            (try simp only [Exit.inBlock, Exit.then]); refine bodyPost_ret (results_none rfl _ _ _) rfl ?_
            refine ⟨rfl, ?_⟩
            rw [hG.out, hG.out] at hS
            rw [← heq.out, sd_right_stop ltU dk h1 hL.out hS]
            exact hW_w2.out.drewN _
          · have hS : ltU (G (first + root)) (G (first + 2 * root + 2)) = true := by
              have : (!ltU (G (first + root)) (G (first + 2 * root + 2))) = false := by assumption
              simpa using this
            obtain ⟨w3, h_w3⟩ : ∃ w3 : World, w3 = World.drewN w2 nq := ⟨_, rfl⟩
            have hW_w3 : Hid (Sw g o w dk w3) := Lib.hid (by rw [h_w3]; exact hW_w2.out.drewN _)
            have hc_w3 : ∀ t, t < d.size → w3.cell? ⟨g, o + t, none⟩ = some (.int .u32 (G t)) := fun t ht => by rw [h_w3]; exact hc_w2 t ht
            have hf_w3 : ∀ t, t < d.size → w3.frozen? ⟨g, o + t, none⟩ = false := fun t ht => by rw [h_w3]; exact hf_w2 t ht
            rw [← h_w3]
            clear h_w3 hc_w2 hf_w2 hW_w2 nq
            go_region
            go_wp2
            go_roundg (hi - (2 * root + 2))
            case measure => omega
            case rel =>
              rw [hG.out, hG.out] at hS
              exact ⟨2 * root + 2, swp dk (first + root) (first + (2 * root + 2)), by simp <;> omega, by omega, Nat.le_refl _, by rw [size_swp]; exact hds, Lib.hid (by rw [hG.out, hG.out]; exact (hW_w3.out.swap (i := first + root) (j := first + (2 * root + 2)) (by omega) (by omega)).drew), Lib.hid (by rw [← heq.out, sd_right_go ltU dk h1 hL.out hS])⟩
        · have hL0 : ltU (G (first + 2 * root + 1)) (G (first + 2 * root + 2)) = false := by assumption
          have hL : Hid (ltU dk[first + (2 * root + 1)]! dk[first + (2 * root + 2)]! = false) := Lib.hid (by rw [hG.out, hG.out] at hL0; exact hL0)
          obtain ⟨w2, h_w2⟩ : ∃ w2 : World, w2 = World.drewN wr nq := ⟨_, rfl⟩
          have hW_w2 : Hid (Sw g o w dk w2) := Lib.hid (by rw [h_w2]; exact hW.out.drewN _)
          have hc_w2 : ∀ t, t < d.size → w2.cell? ⟨g, o + t, none⟩ = some (.int .u32 (G t)) := fun t ht => by rw [h_w2]; exact hcw t ht
          have hf_w2 : ∀ t, t < d.size → w2.frozen? ⟨g, o + t, none⟩ = false := fun t ht => by rw [h_w2]; exact hfw t ht
          rw [← h_w2]
          clear h_w2 hcw hfw hW nq
          go_big_quiet (first | (go_at_call 185; refine Calls.quiet_of_same (lessU _ _ _)))
          go_wp2_with fail
          · have hS : ltU (G (first + root)) (G (first + 2 * root + 1)) = false := by
              have : (!ltU (G (first + root)) (G (first + 2 * root + 1))) = true := by assumption
              simpa using this
            (try simp only [Exit.inBlock, Exit.then]); refine bodyPost_ret (results_none rfl _ _ _) rfl ?_
            refine ⟨rfl, ?_⟩
            rw [hG.out, hG.out] at hS
            rw [← heq.out, sd_left_stop ltU dk (by omega) (fun _ => hL.out) hS]
            exact hW_w2.out.drewN _
          · have hS : ltU (G (first + root)) (G (first + 2 * root + 1)) = true := by
              have : (!ltU (G (first + root)) (G (first + 2 * root + 1))) = false := by assumption
              simpa using this
            obtain ⟨w3, h_w3⟩ : ∃ w3 : World, w3 = World.drewN w2 nq := ⟨_, rfl⟩
            have hW_w3 : Hid (Sw g o w dk w3) := Lib.hid (by rw [h_w3]; exact hW_w2.out.drewN _)
            have hc_w3 : ∀ t, t < d.size → w3.cell? ⟨g, o + t, none⟩ = some (.int .u32 (G t)) := fun t ht => by rw [h_w3]; exact hc_w2 t ht
            have hf_w3 : ∀ t, t < d.size → w3.frozen? ⟨g, o + t, none⟩ = false := fun t ht => by rw [h_w3]; exact hf_w2 t ht
            rw [← h_w3]
            clear h_w3 hc_w2 hf_w2 hW_w2 nq
            go_region
            go_wp2
            go_roundg (hi - (2 * root + 1))
            case measure => omega
            case rel =>
              rw [hG.out, hG.out] at hS
              exact ⟨2 * root + 1, swp dk (first + root) (first + (2 * root + 1)), by simp <;> omega, by omega, Nat.le_refl _, by rw [size_swp]; exact hds, Lib.hid (by rw [hG.out, hG.out]; exact (hW_w3.out.swap (i := first + root) (j := first + (2 * root + 1)) (by omega) (by omega)).drew), Lib.hid (by rw [← heq.out, sd_left_go ltU dk (by omega) (fun _ => hL.out) hS])⟩
      · have h1z : decide (2 * (root : Int) + 1 + 1 < (hi : Int)) = false := decide_eq_false (by omega)
        go_wp2_with fail
        go_big_quiet (first | (go_at_call 185; refine Calls.quiet_of_same (lessU _ _ _)))
        go_wp2_with fail
        obtain ⟨w2, h_w2⟩ : ∃ w2 : World, w2 = World.drewN wr nq := ⟨_, rfl⟩
        have hW_w2 : Hid (Sw g o w dk w2) := Lib.hid (by rw [h_w2]; exact hW.out.drewN _)
        have hc_w2 : ∀ t, t < d.size → w2.cell? ⟨g, o + t, none⟩ = some (.int .u32 (G t)) := fun t ht => by rw [h_w2]; exact hcw t ht
        have hf_w2 : ∀ t, t < d.size → w2.frozen? ⟨g, o + t, none⟩ = false := fun t ht => by rw [h_w2]; exact hfw t ht
        rw [← h_w2]
        clear h_w2 hcw hfw hW nq
        go_big_quiet (first | (go_at_call 185; refine Calls.quiet_of_same (lessU _ _ _)))
        go_wp2_with fail
        · have hS : ltU (G (first + root)) (G (first + 2 * root + 1)) = false := by
            have : (!ltU (G (first + root)) (G (first + 2 * root + 1))) = true := by assumption
            simpa using this
          (try simp only [Exit.inBlock, Exit.then]); refine bodyPost_ret (results_none rfl _ _ _) rfl ?_
          refine ⟨rfl, ?_⟩
          rw [hG.out, hG.out] at hS
          rw [← heq.out, sd_left_stop ltU dk (by omega) (fun h => absurd h h1) hS]
          exact hW_w2.out.drewN _
        · have hS : ltU (G (first + root)) (G (first + 2 * root + 1)) = true := by
            have : (!ltU (G (first + root)) (G (first + 2 * root + 1))) = false := by assumption
            simpa using this
          obtain ⟨w3, h_w3⟩ : ∃ w3 : World, w3 = World.drewN w2 nq := ⟨_, rfl⟩
          have hW_w3 : Hid (Sw g o w dk w3) := Lib.hid (by rw [h_w3]; exact hW_w2.out.drewN _)
          have hc_w3 : ∀ t, t < d.size → w3.cell? ⟨g, o + t, none⟩ = some (.int .u32 (G t)) := fun t ht => by rw [h_w3]; exact hc_w2 t ht
          have hf_w3 : ∀ t, t < d.size → w3.frozen? ⟨g, o + t, none⟩ = false := fun t ht => by rw [h_w3]; exact hf_w2 t ht
          rw [← h_w3]
          clear h_w3 hc_w2 hf_w2 hW_w2 nq
          go_region
          go_wp2
          go_roundg (hi - (2 * root + 1))
          case measure => omega
          case rel =>
            rw [hG.out, hG.out] at hS
            exact ⟨2 * root + 1, swp dk (first + root) (first + (2 * root + 1)), by simp <;> omega, by omega, Nat.le_refl _, by rw [size_swp]; exact hds, Lib.hid (by rw [hG.out, hG.out]; exact (hW_w3.out.swap (i := first + root) (j := first + (2 * root + 1)) (by omega) (by omega)).drew), Lib.hid (by rw [← heq.out, sd_left_go ltU dk (by omega) (fun h => absurd h h1) hS])⟩
end Go.Proofs.YthnfkjcndidoaaaGreatDoor
