import Derived.Test.YthnfkjcndidoaaaGreatDoorCSortF
set_option linter.unusedVariables false
set_option linter.unusedSimpArgs false
namespace Go.Proofs.YthnfkjcndidoaaaGreatDoor
open Go.RowKit Go.Shelf Go.Sort
set_option maxHeartbeats 6400000 in
set_option maxRecDepth 100000 in
theorem partialInsertionSortU (g o cap a b : Nat) (d : Array Nat) (w : World) (hH : Holds encU w g o d) (hab : a < b) (hb : b ≤ d.size) (hsz : d.size < 4611686018427387904) :
    Calls Tryz.prog 184 #[.slice (some ⟨g, o, none⟩) d.size cap, .int .i64 a, .int .i64 b] w fun e w' =>
      e = .returned (.bool (Sort.partialInsertionSort ltU d a b).2) ∧ Sw g o w (Sort.partialInsertionSort ltU d a b).1 w' := by
  have HH := Lib.hid hH
  have H0 := Lib.hid (Sw.refl hH)
  clear hH
  go_enter Tryz.func184, Tryz.ntmps184
  go_wp2
  go_loopw [7, 8] (fun vi vs wr => ∃ (i s : Nat) (dk : Array Nat), vi = .int .i64 i ∧ vs = .int .i64 s ∧ s ≤ 5 ∧ a < i ∧ i ≤ b ∧ dk.size = d.size ∧ Hid (Sw g o w dk wr) ∧
      Hid (partialIns ltU a b (5 - s) i dk = partialIns ltU a b 5 (a + 1) d)) (fun _ vs _ => 5 - (intOf vs).toNat)
  case atStart => exact ⟨a + 1, 0, d, by go_num, rfl, by omega, by omega, by omega, rfl, H0, Lib.hid rfl⟩
  case round =>
    obtain ⟨i, s, dk, rfl, rfl, hs5, hai, hib, hsk, hW, HO⟩ := hrel
    by_cases hs : s < 5
    · go_wp2
      go_loopw [7] (fun vi wr2 => ∃ (k : Nat), vi = .int .i64 k ∧ i ≤ k ∧ k ≤ b ∧ Hid (Sw g o w dk wr2) ∧ Hid (scanSorted ltU dk b k = scanSorted ltU dk b i)) (fun vi _ => b - (intOf vi).toNat)
      case atStart => exact ⟨i, rfl, Nat.le_refl _, hib, hW, Lib.hid rfl⟩
      case round =>
        clear hW
        obtain ⟨k, rfl, hik, hkb, hW, HS⟩ := hrel
        obtain ⟨G, hG, hcw, hfw⟩ := hW.out.fam HH.out hsk d.size rfl
        by_cases hkb' : k < b
        · go_wp2
          go_quiet (first | (go_at_call 185; refine Calls.quiet_of_same (lessU _ _ _)))
          have hkq : ((k : Int) == (b : Int)) = false := by simp; omega
          by_cases h50 : b - a < 50
          · have h50z : (b : Int) - (a : Int) < 50 := by omega
            go_wp2
            · have hl : ltU (G k) (G (k - 1)) = false := by
                have h : (!ltU (G k) (G (k - 1))) = true := by assumption
                simpa using h
              go_roundw
              case rel => exact ⟨k + 1, by go_num, by omega, by omega, Lib.hid (hW.out.drewN _), Lib.hid (by rw [← HS.out, scanSorted_go ltU dk b k hkb' (by rw [← hG.out, ← hG.out]; exact hl)])⟩
              case measure => simp [intOf]; omega
            · have hl : ltU (G k) (G (k - 1)) = true := by
                have h : (!ltU (G k) (G (k - 1))) = false := by assumption
                simpa using h
              have HK : Hid (scanSorted ltU dk b i = k) := Lib.hid (by rw [← HS.out, scanSorted_stop ltU dk b k (Or.inr (by rw [← hG.out, ← hG.out]; exact hl))])
              go_ret
              have hv : Sort.partialInsertionSort ltU d a b = (dk, false) := by
                unfold Sort.partialInsertionSort
                rw [← HO.out, pi_short ltU a b s i dk hs (by rw [HK.out]; omega) (by omega)]
              rw [hv]
              exact ⟨rfl, hW.out.drewN _⟩
          · have h50z : ¬ (b : Int) - (a : Int) < 50 := by omega
            go_wp2_with fail
            · have hl : ltU (G k) (G (k - 1)) = false := by
                have h : (!ltU (G k) (G (k - 1))) = true := by assumption
                simpa using h
              go_roundw
              case rel => exact ⟨k + 1, by go_num, by omega, by omega, Lib.hid (hW.out.drewN _), Lib.hid (by rw [← HS.out, scanSorted_go ltU dk b k hkb' (by rw [← hG.out, ← hG.out]; exact hl)])⟩
              case measure => simp [intOf]; omega
            · have hl : ltU (G k) (G (k - 1)) = true := by
                have h : (!ltU (G k) (G (k - 1))) = false := by assumption
                simpa using h
              have HK : Hid (scanSorted ltU dk b i = k) := Lib.hid (by rw [← HS.out, scanSorted_stop ltU dk b k (Or.inr (by rw [← hG.out, ← hG.out]; exact hl))])
              clear hl
              go_region
              have hW5 := Lib.hid ((hW.out.swapN (nq + 1) (i := k) (j := k - 1) (by omega) (by omega)))
              simp only [encU, ← hG.out] at hW5
              have hs1 : (swp dk k (k - 1)).size = d.size := by rw [size_swp]; exact hsk
              obtain ⟨d1, hd1⟩ : ∃ d1, d1 = swp dk k (k - 1) := ⟨_, rfl⟩
              rw [← hd1] at hs1 hW5
              have HD1 := Lib.hid hd1
              clear hd1
              obtain ⟨W5, hw5⟩ : ∃ W5 : World, W5 = World.setCell (World.setCell (World.drewN wr (nq + 1)) ⟨g, o + k, none⟩ (.int .u32 (G (k - 1)))) ⟨g, o + (k - 1), none⟩ (.int .u32 (G k)) := ⟨_, rfl⟩
              rw [← hw5] at hW5 ⊢
              clear hw5 hcw hfw hG hW
              by_cases hkb2 : b - k ≥ 2
              · have hkz : 2 ≤ (b : Int) - (k : Int) := by omega
                by_cases hka : k - a ≥ 2
                · have hkaz : 2 ≤ (k : Int) - (a : Int) := by omega
                  go_wp2
                  go_loopw [9] (fun vj wr2 => ∃ (j : Nat) (dj : Array Nat), vj = .int .i64 j ∧ j ≤ k - 1 ∧ dj.size = d.size ∧ Hid (Sw g o w dj wr2) ∧ Hid (shiftDown ltU j dj = shiftDown ltU (k - 1) d1)) (fun vj _ => (intOf vj).toNat)
                  case atStart => exact ⟨k - 1, d1, by congr 1; omega, Nat.le_refl _, hs1, hW5, Lib.hid rfl⟩
                  case round =>
                    clear hW5
                    obtain ⟨j, dj, rfl, hjk, hsj, hWj, HDn⟩ := hrel
                    obtain ⟨G, hG, hcw, hfw⟩ := hWj.out.fam HH.out hsj d.size rfl
                    by_cases hj1 : 1 ≤ j
                    · go_wp2
                      go_quiet (first | (go_at_call 185; refine Calls.quiet_of_same (lessU _ _ _)))
                      go_wp2_with fail
                      · have hl : ltU (G j) (G (j - 1)) = false := by
                          have h : (!ltU (G j) (G (j - 1))) = true := by assumption
                          simpa using h
                        have HD : Hid (fixDown ltU a k d1 = dj) := Lib.hid (by unfold fixDown; rw [if_pos hka, ← HDn.out, shiftDown_stop ltU j dj (Or.inr (by rw [← hG.out, ← hG.out]; exact hl))])
                        obtain ⟨W6, hw6⟩ : ∃ W6 : World, W6 = wr.drewN nq := ⟨_, rfl⟩
                        have hWk : Hid (Sw g o w dj W6) := Lib.hid (by rw [hw6]; exact hWj.out.drewN _)
                        rw [← hw6]
                        clear hl hw6 hcw hfw hWj
                        have hWj := hWk
                        clear hWk
                        go_loopw [10] (fun vj wr2 => ∃ (j : Nat) (du : Array Nat), vj = .int .i64 j ∧ k + 1 ≤ j ∧ j ≤ b ∧ du.size = d.size ∧ Hid (Sw g o w du wr2) ∧ Hid (shiftUp ltU b j du = shiftUp ltU b (k + 1) dj)) (fun vj _ => b - (intOf vj).toNat)
                        case atStart => exact ⟨k + 1, dj, by go_num, Nat.le_refl _, by omega, hsj, hWj, Lib.hid rfl⟩
                        case round =>
                          clear hWj
                          obtain ⟨j, du, rfl, hkj, hjb, hsX, hW, hU⟩ := hrel
                          obtain ⟨G, hG, hcw, hfw⟩ := hW.out.fam HH.out hsX d.size rfl
                          by_cases hjb' : j < b
                          · go_wp2
                            go_quiet (first | (go_at_call 185; refine Calls.quiet_of_same (lessU _ _ _)))
                            go_wp2
                            · have hl : ltU (G j) (G (j - 1)) = false := by
                                have h : (!ltU (G j) (G (j - 1))) = true := by assumption
                                simpa using h
                              have HU : Hid (fixUp ltU b k dj = du) := Lib.hid (by unfold fixUp; rw [if_pos (by omega), ← hU.out, shiftUp_stop ltU b j du (Or.inr (by rw [← hG.out, ← hG.out]; exact hl))])
                              go_roundw
                              case rel => exact ⟨k, s + 1, du, rfl, by go_num, by omega, by omega, by omega, hsX, Lib.hid (hW.out.drewN _), Lib.hid (by rw [← HO.out, pi_go ltU a b s i k dk hs HK.out (by omega) (by omega), ← HD1.out, HD.out, HU.out])⟩
                              case measure => simp [intOf]; omega
                            · have hl : ltU (G j) (G (j - 1)) = true := by
                                have h : (!ltU (G j) (G (j - 1))) = false := by assumption
                                simpa using h
                              go_region
                              all_goals go_wp2
                              go_roundw
                              case rel => exact ⟨j + 1, swp du j (j - 1), by go_num, by omega, by omega, by rw [size_swp]; exact hsX, Lib.hid (by rw [hG.out, hG.out]; exact hW.out.swapN _ (i := j) (j := j - 1) (by omega) (by omega)), Lib.hid (by rw [← hU.out, shiftUp_go ltU b j du (by omega) (by rw [← hG.out, ← hG.out]; exact hl)])⟩
                              case measure => simp [intOf]; omega
                          · go_wp2
                            have HU : Hid (fixUp ltU b k dj = du) := Lib.hid (by unfold fixUp; rw [if_pos (by omega), ← hU.out, shiftUp_stop ltU b j du (Or.inl hjb')])
                            go_roundw
                            case rel => exact ⟨k, s + 1, du, rfl, by go_num, by omega, by omega, by omega, hsX, hW, Lib.hid (by rw [← HO.out, pi_go ltU a b s i k dk hs HK.out (by omega) (by omega), ← HD1.out, HD.out, HU.out])⟩
                            case measure => simp [intOf]; omega
                      · have hl : ltU (G j) (G (j - 1)) = true := by
                          have h : (!ltU (G j) (G (j - 1))) = false := by assumption
                          simpa using h
                        go_region
                        all_goals go_wp2
                        go_roundw
                        case rel => exact ⟨j - 1, swp dj j (j - 1), by congr 1; omega, by omega, by rw [size_swp]; exact hsj, Lib.hid (by rw [hG.out, hG.out]; exact hWj.out.swapN _ (i := j) (j := j - 1) (by omega) (by omega)), Lib.hid (by rw [← HDn.out, shiftDown_go ltU j dj (by omega) (by rw [← hG.out, ← hG.out]; exact hl)])⟩
                        case measure => simp [intOf]; omega
                    · have HD : Hid (fixDown ltU a k d1 = dj) := Lib.hid (by unfold fixDown; rw [if_pos hka, ← HDn.out, shiftDown_stop ltU j dj (Or.inl (by omega))])
                      clear hcw hfw
                      go_wp2
                      go_loopw [10] (fun vj wr2 => ∃ (j : Nat) (du : Array Nat), vj = .int .i64 j ∧ k + 1 ≤ j ∧ j ≤ b ∧ du.size = d.size ∧ Hid (Sw g o w du wr2) ∧ Hid (shiftUp ltU b j du = shiftUp ltU b (k + 1) dj)) (fun vj _ => b - (intOf vj).toNat)
                      case atStart => exact ⟨k + 1, dj, by go_num, Nat.le_refl _, by omega, hsj, hWj, Lib.hid rfl⟩
                      case round =>
                        clear hWj
                        obtain ⟨j, du, rfl, hkj, hjb, hsX, hW, hU⟩ := hrel
                        obtain ⟨G, hG, hcw, hfw⟩ := hW.out.fam HH.out hsX d.size rfl
                        by_cases hjb' : j < b
                        · go_wp2
                          go_quiet (first | (go_at_call 185; refine Calls.quiet_of_same (lessU _ _ _)))
                          go_wp2
                          · have hl : ltU (G j) (G (j - 1)) = false := by
                              have h : (!ltU (G j) (G (j - 1))) = true := by assumption
                              simpa using h
                            have HU : Hid (fixUp ltU b k dj = du) := Lib.hid (by unfold fixUp; rw [if_pos (by omega), ← hU.out, shiftUp_stop ltU b j du (Or.inr (by rw [← hG.out, ← hG.out]; exact hl))])
                            go_roundw
                            case rel => exact ⟨k, s + 1, du, rfl, by go_num, by omega, by omega, by omega, hsX, Lib.hid (hW.out.drewN _), Lib.hid (by rw [← HO.out, pi_go ltU a b s i k dk hs HK.out (by omega) (by omega), ← HD1.out, HD.out, HU.out])⟩
                            case measure => simp [intOf]; omega
                          · have hl : ltU (G j) (G (j - 1)) = true := by
                              have h : (!ltU (G j) (G (j - 1))) = false := by assumption
                              simpa using h
                            go_region
                            all_goals go_wp2
                            go_roundw
                            case rel => exact ⟨j + 1, swp du j (j - 1), by go_num, by omega, by omega, by rw [size_swp]; exact hsX, Lib.hid (by rw [hG.out, hG.out]; exact hW.out.swapN _ (i := j) (j := j - 1) (by omega) (by omega)), Lib.hid (by rw [← hU.out, shiftUp_go ltU b j du (by omega) (by rw [← hG.out, ← hG.out]; exact hl)])⟩
                            case measure => simp [intOf]; omega
                        · go_wp2
                          have HU : Hid (fixUp ltU b k dj = du) := Lib.hid (by unfold fixUp; rw [if_pos (by omega), ← hU.out, shiftUp_stop ltU b j du (Or.inl hjb')])
                          go_roundw
                          case rel => exact ⟨k, s + 1, du, rfl, by go_num, by omega, by omega, by omega, hsX, hW, Lib.hid (by rw [← HO.out, pi_go ltU a b s i k dk hs HK.out (by omega) (by omega), ← HD1.out, HD.out, HU.out])⟩
                          case measure => simp [intOf]; omega
                · have hkaz : ¬ 2 ≤ (k : Int) - (a : Int) := by omega
                  have HD : Hid (fixDown ltU a k d1 = d1) := Lib.hid (by unfold fixDown; rw [if_neg (by omega)])
                  have hsj := hs1
                  have hWj := hW5
                  go_wp2
                  go_loopw [10] (fun vj wr2 => ∃ (j : Nat) (du : Array Nat), vj = .int .i64 j ∧ k + 1 ≤ j ∧ j ≤ b ∧ du.size = d.size ∧ Hid (Sw g o w du wr2) ∧ Hid (shiftUp ltU b j du = shiftUp ltU b (k + 1) d1)) (fun vj _ => b - (intOf vj).toNat)
                  case atStart => exact ⟨k + 1, d1, by go_num, Nat.le_refl _, by omega, hsj, hWj, Lib.hid rfl⟩
                  case round =>
                    clear hWj
                    obtain ⟨j, du, rfl, hkj, hjb, hsX, hW, hU⟩ := hrel
                    obtain ⟨G, hG, hcw, hfw⟩ := hW.out.fam HH.out hsX d.size rfl
                    by_cases hjb' : j < b
                    · go_wp2
                      go_quiet (first | (go_at_call 185; refine Calls.quiet_of_same (lessU _ _ _)))
                      go_wp2
                      · have hl : ltU (G j) (G (j - 1)) = false := by
                          have h : (!ltU (G j) (G (j - 1))) = true := by assumption
                          simpa using h
                        have HU : Hid (fixUp ltU b k d1 = du) := Lib.hid (by unfold fixUp; rw [if_pos (by omega), ← hU.out, shiftUp_stop ltU b j du (Or.inr (by rw [← hG.out, ← hG.out]; exact hl))])
                        go_roundw
                        case rel => exact ⟨k, s + 1, du, rfl, by go_num, by omega, by omega, by omega, hsX, Lib.hid (hW.out.drewN _), Lib.hid (by rw [← HO.out, pi_go ltU a b s i k dk hs HK.out (by omega) (by omega), ← HD1.out, HD.out, HU.out])⟩
                        case measure => simp [intOf]; omega
                      · have hl : ltU (G j) (G (j - 1)) = true := by
                          have h : (!ltU (G j) (G (j - 1))) = false := by assumption
                          simpa using h
                        go_region
                        all_goals go_wp2
                        go_roundw
                        case rel => exact ⟨j + 1, swp du j (j - 1), by go_num, by omega, by omega, by rw [size_swp]; exact hsX, Lib.hid (by rw [hG.out, hG.out]; exact hW.out.swapN _ (i := j) (j := j - 1) (by omega) (by omega)), Lib.hid (by rw [← hU.out, shiftUp_go ltU b j du (by omega) (by rw [← hG.out, ← hG.out]; exact hl)])⟩
                        case measure => simp [intOf]; omega
                    · go_wp2
                      have HU : Hid (fixUp ltU b k d1 = du) := Lib.hid (by unfold fixUp; rw [if_pos (by omega), ← hU.out, shiftUp_stop ltU b j du (Or.inl hjb')])
                      go_roundw
                      case rel => exact ⟨k, s + 1, du, rfl, by go_num, by omega, by omega, by omega, hsX, hW, Lib.hid (by rw [← HO.out, pi_go ltU a b s i k dk hs HK.out (by omega) (by omega), ← HD1.out, HD.out, HU.out])⟩
                      case measure => simp [intOf]; omega
              · have hkz : ¬ 2 ≤ (b : Int) - (k : Int) := by omega
                by_cases hka : k - a ≥ 2
                · have hkaz : 2 ≤ (k : Int) - (a : Int) := by omega
                  go_wp2
                  go_loopw [9] (fun vj wr2 => ∃ (j : Nat) (dj : Array Nat), vj = .int .i64 j ∧ j ≤ k - 1 ∧ dj.size = d.size ∧ Hid (Sw g o w dj wr2) ∧ Hid (shiftDown ltU j dj = shiftDown ltU (k - 1) d1)) (fun vj _ => (intOf vj).toNat)
                  case atStart => exact ⟨k - 1, d1, by congr 1; omega, Nat.le_refl _, hs1, hW5, Lib.hid rfl⟩
                  case round =>
                    clear hW5
                    obtain ⟨j, dj, rfl, hjk, hsj, hWj, HDn⟩ := hrel
                    obtain ⟨G, hG, hcw, hfw⟩ := hWj.out.fam HH.out hsj d.size rfl
                    by_cases hj1 : 1 ≤ j
                    · go_wp2
                      go_quiet (first | (go_at_call 185; refine Calls.quiet_of_same (lessU _ _ _)))
                      go_wp2_with fail
                      · have hl : ltU (G j) (G (j - 1)) = false := by
                          have h : (!ltU (G j) (G (j - 1))) = true := by assumption
                          simpa using h
                        have HD : Hid (fixDown ltU a k d1 = dj) := Lib.hid (by unfold fixDown; rw [if_pos hka, ← HDn.out, shiftDown_stop ltU j dj (Or.inr (by rw [← hG.out, ← hG.out]; exact hl))])
                        obtain ⟨W6, hw6⟩ : ∃ W6 : World, W6 = wr.drewN nq := ⟨_, rfl⟩
                        have hWk : Hid (Sw g o w dj W6) := Lib.hid (by rw [hw6]; exact hWj.out.drewN _)
                        rw [← hw6]
                        clear hl hw6 hcw hfw hWj
                        have hWj := hWk
                        clear hWk
                        have HU : Hid (fixUp ltU b k dj = dj) := Lib.hid (by unfold fixUp; rw [if_neg (by omega)])
                        have hsX := hsj
                        go_roundw
                        case rel => exact ⟨k, s + 1, dj, rfl, by go_num, by omega, by omega, by omega, hsX, hWj, Lib.hid (by rw [← HO.out, pi_go ltU a b s i k dk hs HK.out (by omega) (by omega), ← HD1.out, HD.out, HU.out])⟩
                        case measure => simp [intOf]; omega
                      · have hl : ltU (G j) (G (j - 1)) = true := by
                          have h : (!ltU (G j) (G (j - 1))) = false := by assumption
                          simpa using h
                        go_region
                        all_goals go_wp2
                        go_roundw
                        case rel => exact ⟨j - 1, swp dj j (j - 1), by congr 1; omega, by omega, by rw [size_swp]; exact hsj, Lib.hid (by rw [hG.out, hG.out]; exact hWj.out.swapN _ (i := j) (j := j - 1) (by omega) (by omega)), Lib.hid (by rw [← HDn.out, shiftDown_go ltU j dj (by omega) (by rw [← hG.out, ← hG.out]; exact hl)])⟩
                        case measure => simp [intOf]; omega
                    · have HD : Hid (fixDown ltU a k d1 = dj) := Lib.hid (by unfold fixDown; rw [if_pos hka, ← HDn.out, shiftDown_stop ltU j dj (Or.inl (by omega))])
                      clear hcw hfw
                      go_wp2
                      have HU : Hid (fixUp ltU b k dj = dj) := Lib.hid (by unfold fixUp; rw [if_neg (by omega)])
                      have hsX := hsj
                      go_roundw
                      case rel => exact ⟨k, s + 1, dj, rfl, by go_num, by omega, by omega, by omega, hsX, hWj, Lib.hid (by rw [← HO.out, pi_go ltU a b s i k dk hs HK.out (by omega) (by omega), ← HD1.out, HD.out, HU.out])⟩
                      case measure => simp [intOf]; omega
                · have hkaz : ¬ 2 ≤ (k : Int) - (a : Int) := by omega
                  have HD : Hid (fixDown ltU a k d1 = d1) := Lib.hid (by unfold fixDown; rw [if_neg (by omega)])
                  have hsj := hs1
                  have hWj := hW5
                  go_wp2
                  have HU : Hid (fixUp ltU b k d1 = d1) := Lib.hid (by unfold fixUp; rw [if_neg (by omega)])
                  have hsX := hsj
                  go_roundw
                  case rel => exact ⟨k, s + 1, d1, rfl, by go_num, by omega, by omega, by omega, hsX, hWj, Lib.hid (by rw [← HO.out, pi_go ltU a b s i k dk hs HK.out (by omega) (by omega), ← HD1.out, HD.out, HU.out])⟩
                  case measure => simp [intOf]; omega
        · have hkq : ((k : Int) == (b : Int)) = true := by simp; omega
          have HK : Hid (scanSorted ltU dk b i = k) := Lib.hid (by rw [← HS.out, scanSorted_stop ltU dk b k (Or.inl hkb')])
          go_wp2
          go_quiet (first | (go_at_call 185; refine Calls.quiet_of_same (lessU _ _ _)))
          go_wp2
          go_ret
          have hv : Sort.partialInsertionSort ltU d a b = (dk, true) := by
            unfold Sort.partialInsertionSort
            rw [← HO.out, pi_true ltU a b s i dk hs (by rw [HK.out]; omega)]
          rw [hv]
          exact ⟨rfl, hW.out.drewN _⟩
    · obtain rfl : s = 5 := by omega
      go_wp2
      go_ret
      have hv : Sort.partialInsertionSort ltU d a b = (dk, false) := by
        unfold Sort.partialInsertionSort
        rw [← HO.out, pi_end ltU a b i dk]
      rw [hv]
      exact ⟨rfl, hW.out⟩
end Go.Proofs.YthnfkjcndidoaaaGreatDoor
