import Derived.Test.YthnfkjcndidoaaaGreatDoorCSortI
set_option linter.unusedVariables false
set_option linter.unusedSimpArgs false
namespace Go.Proofs.YthnfkjcndidoaaaGreatDoor
open Go.RowKit Go.Shelf Go.Sort
theorem bitsLenU (n : Nat) (hn : n < 4611686018427387904) (w : World) : Calls Tryz.prog 97 #[.int .u64 (n : Int)] w fun e w' => e = .returned (.int .i64 (bitsLen n : Nat)) ∧ w' = w := by
  have h := Tryz.bits_Len (n : Int) w (by omega) (by omega)
  rwa [Int.toNat_natCast, bitLen_eq _ (by omega)] at h
/-- slices.Sort of whole numbers of 32 bits. -/
theorem sortU (g o cap : Nat) (d : Array Nat) (w : World) (hH : Holds encU w g o d) (hgw : g < w.heap.size) (hsz : d.size < 4611686018427387904) :
    Calls Tryz.prog 155 #[.slice (some ⟨g, o, none⟩) d.size cap] w fun e w' => e = .returned (.tuple #[]) ∧ ∃ d' : Array Nat, Sw g o w d' w' ∧ d'.size = d.size ∧ d'.toList.Perm d.toList ∧ d'.toList.Pairwise (· ≤ ·) := by
  have hk : bitsLen d.size ≤ 62 := (bitsLen_le_iff d.size 62).2 (by omega)
  have hL := Lib.hid (bitsLenU d.size hsz)
  have hP := Lib.hid (pdqsortU (d.size + 1) g o cap 0 d.size (bitsLen d.size) d w (by omega) hH hgw (by omega) (by omega) hsz (by omega) (Or.inl rfl))
  clear hH
  go_enter Tryz.func155, Tryz.ntmps155
  go_wp2_with (first
    | (go_at_call 97; refine (hL.out _).mono ?_; rintro e w' ⟨rfl, rfl⟩)
    | (go_at_call 174; refine hP.out.mono ?_; rintro e w1 ⟨rfl, hw1⟩))
  go_end0
  obtain ⟨p, s⟩ := pdq_sorts ltU swoU d 0 d.size (bitsLen d.size) true true (by omega) (by omega) (Or.inl rfl)
  have hp := p.2.2
  rw [show (pdq ltU d 0 d.size (bitsLen d.size) true true).extract 0 d.size = pdq ltU d 0 d.size (bitsLen d.size) true true by
    have e := p.1
    generalize pdq ltU d 0 d.size (bitsLen d.size) true true = q at e
    rw [← e]; simp, show d.extract 0 d.size = d by simp] at hp
  refine ⟨rfl, _, hw1, p.1, hp, ?_⟩
  rw [List.pairwise_iff_getElem]
  intro i j hi hj hij
  have h := s i j (by omega) hij (by simpa [p.1] using hj)
  rw [ltU, decide_eq_false_iff_not] at h
  simp only [Array.length_toList] at hi hj
  rw [getElem!_pos _ j hj, getElem!_pos _ i hi] at h
  simp only [Array.getElem_toList]
  omega
theorem insNone (w : World) : Calls Tryz.prog 179 #[.slice none 0 0, .int .i64 0, .int .i64 0] w fun e w' => e = .returned (.tuple #[]) ∧ w' = w := by
  go_enter Tryz.func179, Tryz.ntmps179
  go_wp2
  go_loopw [6] (fun vi wr => vi = .int .i64 1 ∧ wr = w) (fun vi _ => 0)
  case atStart => exact ⟨rfl, rfl⟩
  case round =>
    obtain ⟨rfl, rfl⟩ := hrel
    go_wp2
    go_end0
    exact ⟨rfl, rfl⟩
theorem pdqNone (w : World) (L : Nat) : Calls Tryz.prog 174 #[.slice none 0 0, .int .i64 0, .int .i64 0, .int .i64 L] w fun e w' => e = .returned (.tuple #[]) ∧ w' = w := by
  go_enter Tryz.func174, Tryz.ntmps174
  go_wp2
  go_loopw [1, 2, 3, 8, 9] (fun v1 v2 v3 v8 v9 wr => v1 = .int .i64 0 ∧ v2 = .int .i64 0 ∧ v3 = .int .i64 L ∧ v8 = .bool true ∧ v9 = .bool true ∧ wr = w) (fun v1 v2 v3 v8 v9 _ => 0)
  case atStart => exact ⟨rfl, rfl, rfl, rfl, rfl, rfl⟩
  case round =>
    obtain ⟨rfl, rfl, rfl, rfl, rfl, rfl⟩ := hrel
    go_wp2_with (go_at_call 179; refine (insNone _).mono ?_; rintro e w1 ⟨rfl, rfl⟩)
    (try simp only [Exit.inBlock, Exit.then]); refine bodyPost_ret (results_none rfl _ _ _) rfl ?_
    exact ⟨rfl, rfl⟩
theorem sortU_none (w : World) : Calls Tryz.prog 155 #[.slice none 0 0] w fun e w' => e = .returned (.tuple #[]) ∧ w' = w := by
  have hL := Lib.hid (bitsLenU 0 (by omega))
  go_enter Tryz.func155, Tryz.ntmps155
  go_wp2_with (first
    | (go_at_call 97; refine (hL.out _).mono ?_; rintro e w' ⟨rfl, rfl⟩)
    | (go_at_call 174; refine (pdqNone _ _).mono ?_; rintro e w1 ⟨rfl, rfl⟩))
  go_end0
  exact ⟨rfl, rfl⟩
end Go.Proofs.YthnfkjcndidoaaaGreatDoor
