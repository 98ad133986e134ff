import Derived.Test.YthnfkjcndidoaaaGreatDoorCSortG
import Derived.Test.YthnfkjcndidoaaaGreatDoorShelf
import Derived.Sort.Walk7a
import Derived.Sort.LotD5
set_option linter.unusedVariables false
set_option linter.unusedSimpArgs false
namespace Go.Proofs.YthnfkjcndidoaaaGreatDoor
open Go.RowKit Go.Shelf Go.Sort
set_option maxRecDepth 100000 in
theorem xorNextU (rb X : Nat) (hX : X < 18446744073709551616) (w : World) (hB : Box w rb 199 (.int .u64 X)) :
    Calls Tryz.prog 168 #[.pointer (some ⟨rb, 0, none⟩)] w fun e w' => e = .returned (.int .u64 (xorNextN X : Nat)) ∧ w' = (w.setCell ⟨rb, 0, none⟩ (.int .u64 (xorNextN X : Nat))).drewN 3 := by
  obtain ⟨A, hA⟩ : ∃ A : Nat, A = X ^^^ (X * 8192 % 18446744073709551616) := ⟨_, rfl⟩
  obtain ⟨B, hBq⟩ : ∃ B : Nat, B = A ^^^ (A / 128) := ⟨_, rfl⟩
  obtain ⟨C, hC⟩ : ∃ C : Nat, C = B ^^^ (B * 131072 % 18446744073709551616) := ⟨_, rfl⟩
  have lA : A < 18446744073709551616 := by rw [hA]; exact Nat.xor_lt_two_pow (n := 64) (by omega) (by omega)
  have lB : B < 18446744073709551616 := by rw [hBq]; exact Nat.xor_lt_two_pow (n := 64) (by omega) (by omega)
  have e1 : bits .xor .u64 (X : Int) (IntKind.u64.wrap ((X : Int) * 8192)) = (A : Int) := by
    rw [IntKind.wrap_u64, show ((X : Int) * 8192 % 18446744073709551616) = ((X * 8192 % 18446744073709551616 : Nat) : Int) by omega, bits_xor_u64_nat _ _ hX (by omega), hA]
  have e2 : bits .xor .u64 (A : Int) ((A : Int) / 128) = (B : Int) := by
    rw [show ((A : Int) / 128) = ((A / 128 : Nat) : Int) by omega, bits_xor_u64_nat _ _ lA (by omega), hBq]
  have e3 : bits .xor .u64 (B : Int) (IntKind.u64.wrap ((B : Int) * 131072)) = (C : Int) := by
    rw [IntKind.wrap_u64, show ((B : Int) * 131072 % 18446744073709551616) = ((B * 131072 % 18446744073709551616 : Nat) : Int) by omega, bits_xor_u64_nat _ _ lB (by omega), hC]
  have hv : xorNextN X = C := by unfold xorNextN; simp only []; rw [← hA, ← hBq, ← hC]
  rw [hv]
  have hc := hB.cell
  have hf := hB.frozen
  clear hA hBq hC hv hB
  have hss : ∀ v v', (w.setCell ⟨rb, 0, none⟩ v).setCell ⟨rb, 0, none⟩ v' = w.setCell ⟨rb, 0, none⟩ v' := setCell_setCell w rb 0
  go_enter Tryz.func168, Tryz.ntmps168
  go_wp2
  go_region
  all_goals go_wp2
  all_goals go_region
  all_goals go_wp2
  all_goals go_region
  all_goals go_wp2
  go_ret
  exact ⟨rfl, rfl⟩
theorem nextPow (n : Nat) (hn : n < 4611686018427387904) (w : World) : Calls Tryz.prog 167 #[.int .i64 n] w fun e w' => e = .returned (.int .u64 ((1 <<< bitsLen n : Nat) : Int)) ∧ w' = w := by
  have hLen : ∀ w, Calls Tryz.prog 97 #[.int .u64 (n : Int)] w fun e w' => e = .returned (.int .i64 (bitsLen n : Nat)) ∧ w' = w := fun w => by
    have h := Tryz.bits_Len (n : Int) w (by omega) (by omega)
    rwa [Int.toNat_natCast, bitLen_eq _ (by omega)] at h
  have hk : bitsLen n ≤ 62 := (bitsLen_le_iff n 62).2 (by omega)
  have hp := wrap_two_pow (bitsLen n) hk
  go_enter Tryz.func167, Tryz.ntmps167
  go_wp2_with (first | (go_at_call 97; refine (hLen _).mono ?_; rintro e w' ⟨rfl, rfl⟩))
  go_ret
  exact ⟨rfl, rfl⟩
theorem Sw.setNew {g o : Nat} {w0 w : World} {d : Array Nat} (h : Sw g o w0 d w) {B : Nat} (hB : w0.heap.size ≤ B) (hne : g ≠ B) (v : Value) : Sw g o w0 d (w.setCell ⟨B, 0, none⟩ v) :=
  ⟨⟨h.fr.os, h.fr.tape, h.fr.output, by rw [show (w.setCell ⟨B, 0, none⟩ v).heap.size = w.heap.size by simp [World.setCell]]; exact h.fr.size, fun i hi hn => (Below.heap_setCell w ⟨B, 0, none⟩ v i (by show i ≠ B; omega)).trans (h.fr.same i hi hn)⟩,
    (Below.heap_setCell w ⟨B, 0, none⟩ v g hne).trans h.row⟩
set_option maxHeartbeats 4000000 in
set_option maxRecDepth 100000 in
theorem breakPatternsU (g o cap a b : Nat) (d : Array Nat) (w : World) (hH : Holds encU w g o d) (hgw : g < w.heap.size) (hab : a + 12 < b) (hb : b ≤ d.size) (hsz : d.size < 4611686018427387904) :
    Calls Tryz.prog 181 #[.slice (some ⟨g, o, none⟩) d.size cap, .int .i64 a, .int .i64 b] w fun e w' => e = .returned (.tuple #[]) ∧ Sw g o w (breakPatterns d a b) w' := by
  obtain ⟨L, rfl⟩ : ∃ L, b = a + L := ⟨b - a, by omega⟩
  have h8 : 8 ≤ L := by omega
  have hne : g ≠ w.heap.size := by omega
  rw [breakPatterns_eq d a L h8]
  obtain ⟨M, hM⟩ : ∃ M : Nat, M = 1 <<< bitsLen L := ⟨_, rfl⟩
  have hM1 : 1 ≤ M := by rw [hM, Nat.one_shiftLeft]; exact Nat.two_pow_pos _
  have hM2 : M ≤ 2 * L := by rw [hM, Nat.one_shiftLeft]; exact two_pow_bitsLen_le (by omega)
  have hNP : ∀ w, Calls Tryz.prog 167 #[.int .i64 (L : Int)] w fun e w' => e = .returned (.int .u64 (M : Int)) ∧ w' = w := by rw [hM]; exact fun w => nextPow L (by omega) w
  rw [← hM]
  clear hM
  have HH := Lib.hid hH
  have H0 := Lib.hid ((Sw.refl hH).quiet (Fr.alloc No w (.cells #[.int .u64 (L : Int)] 199)) hgw)
  have B0 : Hid (Box (w.alloc (.cells #[.int .u64 (L : Int)] 199)) w.heap.size 199 (.int .u64 ((UInt64.ofNat L).toNat : Int))) := Lib.hid (by
    rw [show (UInt64.ofNat L).toNat = L from by simp; omega]; exact Box.new _ _ _)
  have HNP := Lib.hid hNP
  clear hH hNP
  go_enter Tryz.func181, Tryz.ntmps181
  go_wp2_with (first | (go_at_call 167; rw [show ((a : Int) + (L : Int) - (a : Int)) = (L : Int) by omega]; refine (HNP.out _).mono ?_; rintro e w' ⟨rfl, rfl⟩))
  go_loopw [9] (fun vi wr => ∃ (t : Nat) (r : UInt64) (dk : Array Nat), vi = .int .i64 ((a + L / 4 * 2 - 1 + t : Nat) : Int) ∧ t ≤ 3 ∧ dk.size = d.size ∧
      Hid (Sw g o w dk wr) ∧ Hid (Box wr w.heap.size 199 (.int .u64 (r.toNat : Int))) ∧
      Hid (bpRest a L M (a + L / 4 * 2 - 1) (3 - t) t (r, dk) = bpRest a L M (a + L / 4 * 2 - 1) 3 0 (UInt64.ofNat L, d))) (fun vi _ => a + L / 4 * 2 + 3 - (intOf vi).toNat)
  case atStart => exact ⟨0, UInt64.ofNat L, d, by congr 1; omega, by omega, rfl, H0, B0, Lib.hid rfl⟩
  case round =>
    obtain ⟨t, r, dk, rfl, ht, hsk, hW, hBx, hR⟩ := hrel
    by_cases ht3 : t < 3
    · obtain ⟨R, hRr⟩ : ∃ R : Nat, R = r.toNat := ⟨_, rfl⟩
      have lR : R < 18446744073709551616 := by rw [hRr]; exact r.toNat_lt
      obtain ⟨R', hR'⟩ : ∃ R' : Nat, R' = xorNextN R := ⟨_, rfl⟩
      have lR' : R' < 18446744073709551616 := by rw [hR']; exact xorNextN_lt R lR
      obtain ⟨O, hO⟩ : ∃ O : Nat, O = R' &&& (M - 1) := ⟨_, rfl⟩
      have lO : O ≤ M - 1 := by rw [hO]; exact Nat.and_le_right
      have eAnd : bits .and .u64 (R' : Int) ((M : Int) - 1) = (O : Int) := by
        rw [show ((M : Int) - 1) = ((M - 1 : Nat) : Int) by omega, bits_and_u64_nat _ _ lR' (by omega), hO]
      obtain ⟨G, hG, hcw, hfw⟩ := hW.out.fam HH.out hsk d.size rfl
      have hNext : Calls Tryz.prog 168 #[.pointer (some ⟨w.heap.size, 0, none⟩)] wr fun e w' => e = .returned (.int .u64 (R' : Int)) ∧ w' = (wr.setCell ⟨w.heap.size, 0, none⟩ (.int .u64 (R' : Int))).drewN 3 := by
        rw [hR']; exact xorNextU _ R lR wr (by rw [hRr]; exact hBx.out)
      have HNX := Lib.hid hNext
      have HN : Hid (R' = (xorNext r).toNat ∧ O = (xorNext r).toNat &&& (M - 1)) := by
        have e : R' = (xorNext r).toNat := by rw [hR', hRr, xorNext_toNat]
        exact Lib.hid ⟨e, by rw [hO, e]⟩
      clear hRr hR' hO hNext
      by_cases hLO : L ≤ O
      · by_cases hEq : a + L / 4 * 2 - 1 + t = a + (O - L)
        all_goals
          go_wp2_with (first | (go_at_call 168; refine HNX.out.mono ?_; rintro e w' ⟨rfl, rfl⟩))
          go_region
          all_goals go_wp2
          go_roundw
          case rel =>
            refine ⟨t + 1, xorNext r, swp dk (a + L / 4 * 2 - 1 + t) (a + (O - L)), by first | rfl | (congr 1 <;> omega), by omega, by rw [size_swp]; exact hsk, ?_, ?_, ?_⟩
            · have hx := (((hW.out.setNew (B := w.heap.size) (Nat.le_refl _) hne (.int .u64 R')).drewN 3).swap (i := a + L / 4 * 2 - 1 + t) (j := a + (O - L)) (by omega) (by omega)).drew
              simp only [encU, ← hG.out] at hx
              exact Lib.hid (by first | exact hx | (rw [hEq]; rw [hEq] at hx; exact hx))
            · have hy := hBx.out.set (.int .u64 (R' : Int))
              rw [HN.out.1] at hy ⊢
              have hy3 : Box (World.drewN (wr.setCell ⟨w.heap.size, 0, none⟩ (.int .u64 ((xorNext r).toNat : Int))) 4) w.heap.size 199 (.int .u64 ((xorNext r).toNat : Int)) := hy
              exact Lib.hid (Box.setCell (Box.setCell hy3 _ (Ne.symm hne)) _ (Ne.symm hne))
            · exact Lib.hid (by rw [← hR.out, bp_step a L M _ t r dk ((O - L)) (by omega) (by rw [← HN.out.2, if_pos (by omega)])])
          case measure => simp [intOf]; omega
      · by_cases hEq : a + L / 4 * 2 - 1 + t = a + O
        all_goals
          go_wp2_with (first | (go_at_call 168; refine HNX.out.mono ?_; rintro e w' ⟨rfl, rfl⟩))
          go_region
          all_goals go_wp2
          go_roundw
          case rel =>
            refine ⟨t + 1, xorNext r, swp dk (a + L / 4 * 2 - 1 + t) (a + O), by first | rfl | (congr 1 <;> omega), by omega, by rw [size_swp]; exact hsk, ?_, ?_, ?_⟩
            · have hx := (((hW.out.setNew (B := w.heap.size) (Nat.le_refl _) hne (.int .u64 R')).drewN 3).swap (i := a + L / 4 * 2 - 1 + t) (j := a + O) (by omega) (by omega)).drew
              simp only [encU, ← hG.out] at hx
              exact Lib.hid (by first | exact hx | (rw [hEq]; rw [hEq] at hx; exact hx))
            · have hy := hBx.out.set (.int .u64 (R' : Int))
              rw [HN.out.1] at hy ⊢
              have hy3 : Box (World.drewN (wr.setCell ⟨w.heap.size, 0, none⟩ (.int .u64 ((xorNext r).toNat : Int))) 4) w.heap.size 199 (.int .u64 ((xorNext r).toNat : Int)) := hy
              exact Lib.hid (Box.setCell (Box.setCell hy3 _ (Ne.symm hne)) _ (Ne.symm hne))
            · exact Lib.hid (by rw [← hR.out, bp_step a L M _ t r dk (O) (by omega) (by rw [← HN.out.2, if_neg (by omega)])])
          case measure => simp [intOf]; omega
    · obtain rfl : t = 3 := by omega
      go_wp2
      go_end0
      exact ⟨rfl, by rw [← hR.out]; exact hW.out⟩
end Go.Proofs.YthnfkjcndidoaaaGreatDoor
