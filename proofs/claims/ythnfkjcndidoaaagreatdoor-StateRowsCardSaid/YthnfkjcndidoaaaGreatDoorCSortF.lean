import Derived.Test.YthnfkjcndidoaaaGreatDoorCSortE
set_option linter.unusedVariables false
set_option linter.unusedSimpArgs false
namespace Go.Proofs.YthnfkjcndidoaaaGreatDoor
open Go.RowKit Go.Shelf Go.Sort
set_option maxHeartbeats 6400000 in
set_option maxRecDepth 100000 in
theorem partitionEqualU (g o cap a b pivot : Nat) (d : Array Nat) (w : World) (hH : Holds encU w g o d) (hap : a ≤ pivot) (hpb : pivot < b) (hb : b ≤ d.size) (hsz : d.size < 4611686018427387904) :
    Calls Tryz.prog 186 #[.slice (some ⟨g, o, none⟩) d.size cap, .int .i64 a, .int .i64 b, .int .i64 pivot] w fun e w' =>
      e = .returned (.int .i64 ((Sort.partitionEqual ltU d a b pivot).1 : Nat)) ∧ Sw g o w (Sort.partitionEqual ltU d a b pivot).2 w' := by
  have hla : a < d.size := by omega
  have hlp : pivot < d.size := by omega
  obtain ⟨G, hG⟩ : ∃ G : Nat → Nat, ∀ j, G j = d[j]! := ⟨fun j => d[j]!, fun _ => rfl⟩
  have ca : w.cell? ⟨g, o + a, none⟩ = some (.int .u32 (G a)) := by rw [hG]; exact (hH a hla).1
  have fa := (hH a hla).2
  have cp : w.cell? ⟨g, o + pivot, none⟩ = some (.int .u32 (G pivot)) := by rw [hG]; exact (hH pivot hlp).1
  have fp := (hH pivot hlp).2
  obtain ⟨v', hy'⟩ := cell?_setCell_some (w := w) (p := ⟨g, o + a, none⟩) (x := .int .u32 (G pivot)) (q := ⟨g, o + pivot, none⟩) cp
  have HG : Hid (∀ j, G j = d[j]!) := Lib.hid hG
  have HH := Lib.hid hH
  have H0 := Lib.hid (Sw.refl hH)
  clear hG hH
  go_enter Tryz.func186, Tryz.ntmps186
  go_wp2
  go_region
  go_wp2
  go_loopw [9, 10] (fun vi vj wr => ∃ (i j : Nat) (dk : Array Nat), vi = .int .i64 i ∧ vj = .int .i64 j ∧ a < i ∧ i ≤ j + 1 ∧ j < b ∧ dk.size = d.size ∧ Hid (Sw g o w dk wr) ∧
      Hid (partEqLoop ltU a i j dk = partEqLoop ltU a (a + 1) (b - 1) (swp d a pivot)))
    (fun vi vj _ => (intOf vj).toNat + 1 - (intOf vi).toNat)
  case atStart =>
    exact ⟨a + 1, b - 1, swp d a pivot, by go_num, by go_num, by omega, by omega, by omega, size_swp _ _ _, Lib.hid (by rw [HG.out a, HG.out pivot]; exact (H0.out.swap (i := a) (j := pivot) hla hlp).drew), Lib.hid rfl⟩
  case round =>
    obtain ⟨i, j, dk, rfl, rfl, hai, hij, hjb, hs, hW, AE⟩ := hrel
    clear ca fa cp fp hy' v' HG
    obtain ⟨Gk, hG⟩ : ∃ Gk : Nat → Nat, ∀ t, Gk t = dk[t]! := ⟨fun t => dk[t]!, fun _ => rfl⟩
    have AG := Lib.hid hG
    clear hG
    go_wp2
    go_loopw [9] (fun vi w1 => ∃ (i' : Nat), vi = .int .i64 i' ∧ i ≤ i' ∧ i' ≤ j + 1 ∧ Hid (Sw g o w dk w1) ∧ Hid (scanUp (fun x => !ltU dk[a]! x) dk j i' = scanUp (fun x => !ltU dk[a]! x) dk j i)) (fun vi _ => j + 1 - (intOf vi).toNat)
    case atStart => exact ⟨i, rfl, Nat.le_refl _, hij, hW, Lib.hid rfl⟩
    case round =>
      clear hW
      obtain ⟨i', rfl, hii, hij', hW, hsc⟩ := hrel
      have hcw : ∀ t, t < d.size → World.cell? wr ⟨g, o + t, none⟩ = some (.int .u32 (Gk t)) := fun t ht => by rw [AG.out]; exact (hW.out.holds HH.out hs t (by omega)).1
      by_cases hle : i' ≤ j
      · go_wp2_with fail
        go_big_quiet (first | (go_at_call 185; refine Calls.quiet_of_same (lessU _ _ _)))
        go_wp2
        · have ht : (!ltU (Gk a) (Gk i')) = true := by assumption
          go_roundw
          case rel => exact ⟨i' + 1, by go_num, by omega, by omega, Lib.hid (hW.out.drewN _), Lib.hid ((scanUp_go (fun x => !ltU dk[a]! x) dk j i' hle (by rw [← AG.out a, ← AG.out i']; exact ht)).symm.trans hsc.out)⟩
          case measure => simp [intOf]; omega
        · have ht : (!ltU (Gk a) (Gk i')) = false := by assumption
          have hi2 : Hid (i' = scanUp (fun x => !ltU dk[a]! x) dk j i) := Lib.hid ((scanUp_end (fun x => !ltU dk[a]! x) dk j i' (Or.inr (by rw [← AG.out a, ← AG.out i']; exact ht))).symm.trans hsc.out)
          clear ht hcw hsc
          go_loopw [10] (fun vj w2 => ∃ (j' : Nat), vj = .int .i64 j' ∧ j' ≤ j ∧ i' ≤ j' + 1 ∧ Hid (Sw g o w dk w2) ∧ Hid (scanDown (fun x => ltU dk[a]! x) dk i' j' = scanDown (fun x => ltU dk[a]! x) dk i' j)) (fun vj _ => (intOf vj).toNat)
          case atStart => exact ⟨j, rfl, Nat.le_refl _, hij', Lib.hid (hW.out.drewN _), Lib.hid rfl⟩
          case round =>
            clear hW nq
            obtain ⟨j', rfl, hjj, hij2, hW, hsd⟩ := hrel
            have hcw : ∀ t, t < d.size → World.cell? wr ⟨g, o + t, none⟩ = some (.int .u32 (Gk t)) := fun t ht => by rw [AG.out]; exact (hW.out.holds HH.out hs t (by omega)).1
            by_cases hle2 : i' ≤ j'
            · go_wp2_with fail
              go_big_quiet (first | (go_at_call 185; refine Calls.quiet_of_same (lessU _ _ _)))
              go_wp2
              · have ht : ltU (Gk a) (Gk j') = true := by assumption
                go_roundw
                case rel => exact ⟨j' - 1, by go_num, by omega, by omega, Lib.hid (hW.out.drewN _), Lib.hid ((scanDown_go (fun x => ltU dk[a]! x) dk i' j' hle2 (by omega) (by rw [← AG.out a, ← AG.out j']; exact ht)).symm.trans hsd.out)⟩
                case measure => simp [intOf]; omega
              · have ht : ltU (Gk a) (Gk j') = false := by assumption
                have hj2 : Hid (j' = scanDown (fun x => ltU dk[a]! x) dk i' j) := Lib.hid ((scanDown_end (fun x => ltU dk[a]! x) dk i' j' (Or.inr (by rw [← AG.out a, ← AG.out j']; exact ht))).symm.trans hsd.out)
                clear hsd ht
                obtain ⟨W3, hw3⟩ : ∃ W3 : World, W3 = wr.drewN nq := ⟨_, rfl⟩
                have hW3 : Hid (Sw g o w dk W3) := Lib.hid (by rw [hw3]; exact hW.out.drewN _)
                rw [← hw3]
                clear hw3 hcw hW
                have hc3 : ∀ t, t < d.size → W3.cell? ⟨g, o + t, none⟩ = some (.int .u32 (Gk t)) := fun t ht => by rw [AG.out]; exact (hW3.out.holds HH.out hs t (by omega)).1
                have hf3 : ∀ t, t < d.size → W3.frozen? ⟨g, o + t, none⟩ = false := fun t ht => (hW3.out.holds HH.out hs t (by omega)).2
                have hlt3 := scans_lt ltU a i j dk (by omega) hi2.out hj2.out hle2
                go_wp2
                go_region
                all_goals go_wp2
                all_goals go_roundw
                case rel => exact ⟨i' + 1, j' - 1, swp dk i' j', by go_num, by go_num, by omega, by omega, by omega, by rw [size_swp]; exact hs, Lib.hid (by rw [AG.out i', AG.out j']; exact (hW3.out.swap (i := i') (j := j') (by omega) (by omega)).drew), Lib.hid (by rw [← AE.out]; exact (partEq_go ltU a i j dk hi2.out hj2.out (by omega)).symm)⟩
                case measure => simp [intOf]; omega
            · go_wp2_with fail
              go_big_quiet (first | (go_at_call 185; refine Calls.quiet_of_same (lessU _ _ _)))
              have hj2 : Hid (j' = scanDown (fun x => ltU dk[a]! x) dk i' j) := Lib.hid ((scanDown_end (fun x => ltU dk[a]! x) dk i' j' (Or.inl hle2)).symm.trans hsd.out)
              clear hsd
              obtain ⟨W3, hw3⟩ : ∃ W3 : World, W3 = wr.drewN nq := ⟨_, rfl⟩
              have hW3 : Hid (Sw g o w dk W3) := Lib.hid (by rw [hw3]; exact hW.out.drewN _)
              rw [← hw3]
              clear hw3 hcw hW
              have hc3 : ∀ t, t < d.size → W3.cell? ⟨g, o + t, none⟩ = some (.int .u32 (Gk t)) := fun t ht => by rw [AG.out]; exact (hW3.out.holds HH.out hs t (by omega)).1
              have hf3 : ∀ t, t < d.size → W3.frozen? ⟨g, o + t, none⟩ = false := fun t ht => (hW3.out.holds HH.out hs t (by omega)).2
              go_wp2
              go_ret
              have e := partEq_break ltU a i j dk hi2.out hj2.out (by omega)
              refine ⟨?_, ?_⟩
              · unfold Sort.partitionEqual; rw [← AE.out, e]; rfl
              · unfold Sort.partitionEqual; rw [← AE.out, e]; exact hW3.out
      · go_wp2_with fail
        go_big_quiet (first | (go_at_call 185; refine Calls.quiet_of_same (lessU _ _ _)))
        go_wp2
        have hi2 : Hid (i' = scanUp (fun x => !ltU dk[a]! x) dk j i) := Lib.hid ((scanUp_end (fun x => !ltU dk[a]! x) dk j i' (Or.inl hle)).symm.trans hsc.out)
        clear hcw hsc
        go_loopw [10] (fun vj w2 => ∃ (j' : Nat), vj = .int .i64 j' ∧ j' ≤ j ∧ i' ≤ j' + 1 ∧ Hid (Sw g o w dk w2) ∧ Hid (scanDown (fun x => ltU dk[a]! x) dk i' j' = scanDown (fun x => ltU dk[a]! x) dk i' j)) (fun vj _ => (intOf vj).toNat)
        case atStart => exact ⟨j, rfl, Nat.le_refl _, hij', Lib.hid (hW.out.drewN _), Lib.hid rfl⟩
        case round =>
          clear hW nq
          obtain ⟨j', rfl, hjj, hij2, hW, hsd⟩ := hrel
          have hcw : ∀ t, t < d.size → World.cell? wr ⟨g, o + t, none⟩ = some (.int .u32 (Gk t)) := fun t ht => by rw [AG.out]; exact (hW.out.holds HH.out hs t (by omega)).1
          by_cases hle2 : i' ≤ j'
          · exfalso; omega
          · go_wp2_with fail
            go_big_quiet (first | (go_at_call 185; refine Calls.quiet_of_same (lessU _ _ _)))
            have hj2 : Hid (j' = scanDown (fun x => ltU dk[a]! x) dk i' j) := Lib.hid ((scanDown_end (fun x => ltU dk[a]! x) dk i' j' (Or.inl hle2)).symm.trans hsd.out)
            clear hsd
            obtain ⟨W3, hw3⟩ : ∃ W3 : World, W3 = wr.drewN nq := ⟨_, rfl⟩
            have hW3 : Hid (Sw g o w dk W3) := Lib.hid (by rw [hw3]; exact hW.out.drewN _)
            rw [← hw3]
            clear hw3 hcw hW
            have hc3 : ∀ t, t < d.size → W3.cell? ⟨g, o + t, none⟩ = some (.int .u32 (Gk t)) := fun t ht => by rw [AG.out]; exact (hW3.out.holds HH.out hs t (by omega)).1
            have hf3 : ∀ t, t < d.size → W3.frozen? ⟨g, o + t, none⟩ = false := fun t ht => (hW3.out.holds HH.out hs t (by omega)).2
            go_wp2
            go_ret
            have e := partEq_break ltU a i j dk hi2.out hj2.out (by omega)
            refine ⟨?_, ?_⟩
            · unfold Sort.partitionEqual; rw [← AE.out, e]; rfl
            · unfold Sort.partitionEqual; rw [← AE.out, e]; exact hW3.out
set_option maxHeartbeats 12800000 in
set_option maxRecDepth 100000 in
theorem partitionU (g o cap a b pivot : Nat) (d : Array Nat) (w : World) (hH : Holds encU w g o d) (hap : a ≤ pivot) (hpb : pivot < b) (hb : b ≤ d.size) (hsz : d.size < 4611686018427387904) :
    Calls Tryz.prog 187 #[.slice (some ⟨g, o, none⟩) d.size cap, .int .i64 a, .int .i64 b, .int .i64 pivot] w fun e w' =>
      e = .returned (.tuple #[.int .i64 ((Sort.partition ltU d a b pivot).1 : Nat), .bool (Sort.partition ltU d a b pivot).2.1]) ∧ Sw g o w (Sort.partition ltU d a b pivot).2.2 w' := by
  have hla : a < d.size := by omega
  have hlp : pivot < d.size := by omega
  obtain ⟨G, hG⟩ : ∃ G : Nat → Nat, ∀ j, G j = d[j]! := ⟨fun j => d[j]!, fun _ => rfl⟩
  have ca : w.cell? ⟨g, o + a, none⟩ = some (.int .u32 (G a)) := by rw [hG]; exact (hH a hla).1
  have fa := (hH a hla).2
  have cp : w.cell? ⟨g, o + pivot, none⟩ = some (.int .u32 (G pivot)) := by rw [hG]; exact (hH pivot hlp).1
  have fp := (hH pivot hlp).2
  obtain ⟨v', hy'⟩ := cell?_setCell_some (w := w) (p := ⟨g, o + a, none⟩) (x := .int .u32 (G pivot)) (q := ⟨g, o + pivot, none⟩) cp
  have HG : Hid (∀ j, G j = d[j]!) := Lib.hid hG
  have HH := Lib.hid hH
  have H0 := Lib.hid (Sw.refl hH)
  clear hG hH
  go_enter Tryz.func187, Tryz.ntmps187
  go_wp2
  go_region
  go_wp2
  have hW := Lib.hid ((H0.out.swap (i := a) (j := pivot) hla hlp).drew)
  simp only [encU, ← HG.out] at hW
  clear ca fa cp fp hy' v'
  generalize ((w.setCell ⟨g, o + a, none⟩ (.int .u32 (G pivot))).setCell ⟨g, o + pivot, none⟩ (.int .u32 (G a))).drew = W1 at hW ⊢
  obtain ⟨dk, hdk⟩ : ∃ dk, dk = swp d a pivot := ⟨_, rfl⟩
  rw [← hdk] at hW
  have hs : dk.size = d.size := by rw [hdk, size_swp]
  have e1 : ((a : Int) + 1) = ((a + 1 : Nat) : Int) := by omega
  have e2 : ((b : Int) - 1) = ((b - 1 : Nat) : Int) := by omega
  rw [e1, e2]
  clear e1 e2
  obtain ⟨i, hi⟩ : ∃ i, i = a + 1 := ⟨_, rfl⟩
  obtain ⟨j, hj⟩ : ∃ j, j = b - 1 := ⟨_, rfl⟩
  rw [← hi, ← hj]
  have hai : a < i := by omega
  have hij : i ≤ j + 1 := by omega
  have hjb : j < b := by omega
  have HI := Lib.hid hi
  have HJ := Lib.hid hj
  have HDK := Lib.hid hdk
  clear hi hj hdk HG
  obtain ⟨Gk, hG⟩ : ∃ Gk : Nat → Nat, ∀ t, Gk t = dk[t]! := ⟨fun t => dk[t]!, fun _ => rfl⟩
  have AG := Lib.hid hG
  clear hG
  go_loopw [10] (fun vi w1 => ∃ (i' : Nat), vi = .int .i64 i' ∧ i ≤ i' ∧ i' ≤ j + 1 ∧ Hid (Sw g o w dk w1) ∧ Hid (scanUp (fun x => ltU x dk[a]!) dk j i' = scanUp (fun x => ltU x dk[a]!) dk j i)) (fun vi _ => j + 1 - (intOf vi).toNat)
  case atStart => exact ⟨i, rfl, Nat.le_refl _, hij, hW, Lib.hid rfl⟩
  case round =>
    clear hW
    obtain ⟨i', rfl, hii, hij', hW, hsc⟩ := hrel
    have hcw : ∀ t, t < d.size → World.cell? wr ⟨g, o + t, none⟩ = some (.int .u32 (Gk t)) := fun t ht => by rw [AG.out]; exact (hW.out.holds HH.out hs t (by omega)).1
    by_cases hle : i' ≤ j
    · go_wp2_with fail
      go_big_quiet (first | (go_at_call 185; refine Calls.quiet_of_same (lessU _ _ _)))
      go_wp2
      · have ht : ltU (Gk i') (Gk a) = true := by assumption
        go_roundw
        case rel => exact ⟨i' + 1, by go_num, by omega, by omega, Lib.hid (hW.out.drewN _), Lib.hid ((scanUp_go (fun x => ltU x dk[a]!) dk j i' hle (by rw [← AG.out a, ← AG.out i']; exact ht)).symm.trans hsc.out)⟩
        case measure => simp [intOf]; omega
      · have ht : ltU (Gk i') (Gk a) = false := by assumption
        have hi2 : Hid (i' = scanUp (fun x => ltU x dk[a]!) dk j i) := Lib.hid ((scanUp_end (fun x => ltU x dk[a]!) dk j i' (Or.inr (by rw [← AG.out a, ← AG.out i']; exact ht))).symm.trans hsc.out)
        clear ht hcw hsc
        go_loopw [11] (fun vj w2 => ∃ (j' : Nat), vj = .int .i64 j' ∧ j' ≤ j ∧ i' ≤ j' + 1 ∧ Hid (Sw g o w dk w2) ∧ Hid (scanDown (fun x => !ltU x dk[a]!) dk i' j' = scanDown (fun x => !ltU x dk[a]!) dk i' j)) (fun vj _ => (intOf vj).toNat)
        case atStart => exact ⟨j, rfl, Nat.le_refl _, hij', Lib.hid (hW.out.drewN _), Lib.hid rfl⟩
        case round =>
          clear hW nq
          obtain ⟨j', rfl, hjj, hij2, hW, hsd⟩ := hrel
          have hcw : ∀ t, t < d.size → World.cell? wr ⟨g, o + t, none⟩ = some (.int .u32 (Gk t)) := fun t ht => by rw [AG.out]; exact (hW.out.holds HH.out hs t (by omega)).1
          by_cases hle2 : i' ≤ j'
          · go_wp2_with fail
            go_big_quiet (first | (go_at_call 185; refine Calls.quiet_of_same (lessU _ _ _)))
            go_wp2
            · have ht : (!ltU (Gk j') (Gk a)) = true := by assumption
              go_roundw
              case rel => exact ⟨j' - 1, by go_num, by omega, by omega, Lib.hid (hW.out.drewN _), Lib.hid ((scanDown_go (fun x => !ltU x dk[a]!) dk i' j' hle2 (by omega) (by rw [← AG.out a, ← AG.out j']; exact ht)).symm.trans hsd.out)⟩
              case measure => simp [intOf]; omega
            · have ht : (!ltU (Gk j') (Gk a)) = false := by assumption
              have hj2 : Hid (j' = scanDown (fun x => !ltU x dk[a]!) dk i' j) := Lib.hid ((scanDown_end (fun x => !ltU x dk[a]!) dk i' j' (Or.inr (by rw [← AG.out a, ← AG.out j']; exact ht))).symm.trans hsd.out)
              clear hsd ht
              obtain ⟨W3, hw3⟩ : ∃ W3 : World, W3 = wr.drewN nq := ⟨_, rfl⟩
              have hW3 : Hid (Sw g o w dk W3) := Lib.hid (by rw [hw3]; exact hW.out.drewN _)
              rw [← hw3]
              clear hw3 hcw hW
              have hc3 : ∀ t, t < d.size → W3.cell? ⟨g, o + t, none⟩ = some (.int .u32 (Gk t)) := fun t ht => by rw [AG.out]; exact (hW3.out.holds HH.out hs t (by omega)).1
              have hf3 : ∀ t, t < d.size → W3.frozen? ⟨g, o + t, none⟩ = false := fun t ht => (hW3.out.holds HH.out hs t (by omega)).2
              have hlt3 := part_scans_lt ltU a i j dk (by omega) hi2.out hj2.out hle2
              obtain ⟨P, hP⟩ : ∃ P, P = partLoop ltU a (i' + 1) (j' - 1) (swp dk i' j') := ⟨_, rfl⟩
              have HP : Hid (Sort.partition ltU d a b pivot = (P.1, false, swp P.2 P.1 a)) := Lib.hid (by rw [hP]; exact part_first_go ltU d a b pivot HI.out HJ.out HDK.out hi2.out hj2.out (by omega))
              have HPE := Lib.hid hP
              clear hP
              go_wp2
              go_region
              go_wp2
              have hW4 := Lib.hid (hW3.out.swap (i := i') (j := j') (by omega) (by omega)).drew
              simp only [encU, ← AG.out] at hW4
              have hs4 : (swp dk i' j').size = d.size := by rw [size_swp]; exact hs
              go_loopw [10, 11] (fun vi vj wr => ∃ (i j : Nat) (dk : Array Nat), vi = .int .i64 i ∧ vj = .int .i64 j ∧ a < i ∧ i ≤ j + 1 ∧ j < b ∧ dk.size = d.size ∧ Hid (Sw g o w dk wr) ∧ Hid (partLoop ltU a i j dk = P))
                (fun vi vj _ => (intOf vj).toNat + 1 - (intOf vi).toNat)
              case atStart => exact ⟨i' + 1, j' - 1, swp dk i' j', by go_num, by go_num, by omega, by omega, by omega, hs4, hW4, Lib.hid HPE.out.symm⟩
              case round =>
                clear hW4 hs4 hW3 hc3 hf3 hi2 hj2 HI HJ HDK HPE hlt3 hle hle2 AG
                obtain ⟨i, j, dk, rfl, rfl, hai, hij, hjb, hs, hW, AE⟩ := hrel
                obtain ⟨Gk, hG⟩ : ∃ Gk : Nat → Nat, ∀ t, Gk t = dk[t]! := ⟨fun t => dk[t]!, fun _ => rfl⟩
                have AG := Lib.hid hG
                clear hG
                go_wp2
                go_loopw [10] (fun vi w1 => ∃ (i' : Nat), vi = .int .i64 i' ∧ i ≤ i' ∧ i' ≤ j + 1 ∧ Hid (Sw g o w dk w1) ∧ Hid (scanUp (fun x => ltU x dk[a]!) dk j i' = scanUp (fun x => ltU x dk[a]!) dk j i)) (fun vi _ => j + 1 - (intOf vi).toNat)
                case atStart => exact ⟨i, rfl, Nat.le_refl _, hij, hW, Lib.hid rfl⟩
                case round =>
                  clear hW
                  obtain ⟨i', rfl, hii, hij', hW, hsc⟩ := hrel
                  have hcw : ∀ t, t < d.size → World.cell? wr ⟨g, o + t, none⟩ = some (.int .u32 (Gk t)) := fun t ht => by rw [AG.out]; exact (hW.out.holds HH.out hs t (by omega)).1
                  by_cases hle : i' ≤ j
                  · go_wp2_with fail
                    go_big_quiet (first | (go_at_call 185; refine Calls.quiet_of_same (lessU _ _ _)))
                    go_wp2
                    · have ht : ltU (Gk i') (Gk a) = true := by assumption
                      go_roundw
                      case rel => exact ⟨i' + 1, by go_num, by omega, by omega, Lib.hid (hW.out.drewN _), Lib.hid ((scanUp_go (fun x => ltU x dk[a]!) dk j i' hle (by rw [← AG.out a, ← AG.out i']; exact ht)).symm.trans hsc.out)⟩
                      case measure => simp [intOf]; omega
                    · have ht : ltU (Gk i') (Gk a) = false := by assumption
                      have hi2 : Hid (i' = scanUp (fun x => ltU x dk[a]!) dk j i) := Lib.hid ((scanUp_end (fun x => ltU x dk[a]!) dk j i' (Or.inr (by rw [← AG.out a, ← AG.out i']; exact ht))).symm.trans hsc.out)
                      clear ht hcw hsc
                      go_loopw [11] (fun vj w2 => ∃ (j' : Nat), vj = .int .i64 j' ∧ j' ≤ j ∧ i' ≤ j' + 1 ∧ Hid (Sw g o w dk w2) ∧ Hid (scanDown (fun x => !ltU x dk[a]!) dk i' j' = scanDown (fun x => !ltU x dk[a]!) dk i' j)) (fun vj _ => (intOf vj).toNat)
                      case atStart => exact ⟨j, rfl, Nat.le_refl _, hij', Lib.hid (hW.out.drewN _), Lib.hid rfl⟩
                      case round =>
                        clear hW nq
                        obtain ⟨j', rfl, hjj, hij2, hW, hsd⟩ := hrel
                        have hcw : ∀ t, t < d.size → World.cell? wr ⟨g, o + t, none⟩ = some (.int .u32 (Gk t)) := fun t ht => by rw [AG.out]; exact (hW.out.holds HH.out hs t (by omega)).1
                        by_cases hle2 : i' ≤ j'
                        · go_wp2_with fail
                          go_big_quiet (first | (go_at_call 185; refine Calls.quiet_of_same (lessU _ _ _)))
                          go_wp2
                          · have ht : (!ltU (Gk j') (Gk a)) = true := by assumption
                            go_roundw
                            case rel => exact ⟨j' - 1, by go_num, by omega, by omega, Lib.hid (hW.out.drewN _), Lib.hid ((scanDown_go (fun x => !ltU x dk[a]!) dk i' j' hle2 (by omega) (by rw [← AG.out a, ← AG.out j']; exact ht)).symm.trans hsd.out)⟩
                            case measure => simp [intOf]; omega
                          · have ht : (!ltU (Gk j') (Gk a)) = false := by assumption
                            have hj2 : Hid (j' = scanDown (fun x => !ltU x dk[a]!) dk i' j) := Lib.hid ((scanDown_end (fun x => !ltU x dk[a]!) dk i' j' (Or.inr (by rw [← AG.out a, ← AG.out j']; exact ht))).symm.trans hsd.out)
                            clear hsd ht
                            obtain ⟨W3, hw3⟩ : ∃ W3 : World, W3 = wr.drewN nq := ⟨_, rfl⟩
                            have hW3 : Hid (Sw g o w dk W3) := Lib.hid (by rw [hw3]; exact hW.out.drewN _)
                            rw [← hw3]
                            clear hw3 hcw hW
                            have hc3 : ∀ t, t < d.size → W3.cell? ⟨g, o + t, none⟩ = some (.int .u32 (Gk t)) := fun t ht => by rw [AG.out]; exact (hW3.out.holds HH.out hs t (by omega)).1
                            have hf3 : ∀ t, t < d.size → W3.frozen? ⟨g, o + t, none⟩ = false := fun t ht => (hW3.out.holds HH.out hs t (by omega)).2
                            have hlt3 := part_scans_lt ltU a i j dk (by omega) hi2.out hj2.out hle2
                            go_wp2
                            go_region
                            all_goals go_wp2
                            all_goals go_roundw
                            case rel => exact ⟨i' + 1, j' - 1, swp dk i' j', by go_num, by go_num, by omega, by omega, by omega, by rw [size_swp]; exact hs, Lib.hid (by rw [AG.out i', AG.out j']; exact (hW3.out.swap (i := i') (j := j') (by omega) (by omega)).drew), Lib.hid (by rw [← AE.out]; exact (part_go ltU a i j dk hi2.out hj2.out (by omega)).symm)⟩
                            case measure => simp [intOf]; omega
                        · go_wp2_with fail
                          go_big_quiet (first | (go_at_call 185; refine Calls.quiet_of_same (lessU _ _ _)))
                          have hj2 : Hid (j' = scanDown (fun x => !ltU x dk[a]!) dk i' j) := Lib.hid ((scanDown_end (fun x => !ltU x dk[a]!) dk i' j' (Or.inl hle2)).symm.trans hsd.out)
                          clear hsd
                          obtain ⟨W3, hw3⟩ : ∃ W3 : World, W3 = wr.drewN nq := ⟨_, rfl⟩
                          have hW3 : Hid (Sw g o w dk W3) := Lib.hid (by rw [hw3]; exact hW.out.drewN _)
                          rw [← hw3]
                          clear hw3 hcw hW
                          have hc3 : ∀ t, t < d.size → W3.cell? ⟨g, o + t, none⟩ = some (.int .u32 (Gk t)) := fun t ht => by rw [AG.out]; exact (hW3.out.holds HH.out hs t (by omega)).1
                          have hf3 : ∀ t, t < d.size → W3.frozen? ⟨g, o + t, none⟩ = false := fun t ht => (hW3.out.holds HH.out hs t (by omega)).2
                          obtain ⟨v3, hy3⟩ := cell?_setCell_some (w := W3) (p := ⟨g, o + j', none⟩) (x := .int .u32 (Gk a)) (q := ⟨g, o + a, none⟩) (hc3 a (by omega))
                          have hlj : j' < d.size := by omega
                          go_wp2
                          go_region
                          all_goals go_wp2
                          all_goals go_ret2
                          have e : Sort.partition ltU d a b pivot = (j', false, swp dk j' a) := by rw [HP.out, ← AE.out, part_break ltU a i j dk hi2.out hj2.out (by omega)]
                          refine ⟨?_, ?_⟩
                          · rw [e]; rfl
                          · rw [e, AG.out a, AG.out j']
                            exact (hW3.out.swap (i := j') (j := a) (by omega) (by omega)).drew
                  · go_wp2_with fail
                    go_big_quiet (first | (go_at_call 185; refine Calls.quiet_of_same (lessU _ _ _)))
                    go_wp2
                    have hi2 : Hid (i' = scanUp (fun x => ltU x dk[a]!) dk j i) := Lib.hid ((scanUp_end (fun x => ltU x dk[a]!) dk j i' (Or.inl hle)).symm.trans hsc.out)
                    clear hcw hsc
                    go_loopw [11] (fun vj w2 => ∃ (j' : Nat), vj = .int .i64 j' ∧ j' ≤ j ∧ i' ≤ j' + 1 ∧ Hid (Sw g o w dk w2) ∧ Hid (scanDown (fun x => !ltU x dk[a]!) dk i' j' = scanDown (fun x => !ltU x dk[a]!) dk i' j)) (fun vj _ => (intOf vj).toNat)
                    case atStart => exact ⟨j, rfl, Nat.le_refl _, hij', Lib.hid (hW.out.drewN _), Lib.hid rfl⟩
                    case round =>
                      clear hW nq
                      obtain ⟨j', rfl, hjj, hij2, hW, hsd⟩ := hrel
                      have hcw : ∀ t, t < d.size → World.cell? wr ⟨g, o + t, none⟩ = some (.int .u32 (Gk t)) := fun t ht => by rw [AG.out]; exact (hW.out.holds HH.out hs t (by omega)).1
                      by_cases hle2 : i' ≤ j'
                      · exfalso; omega
                      · go_wp2_with fail
                        go_big_quiet (first | (go_at_call 185; refine Calls.quiet_of_same (lessU _ _ _)))
                        have hj2 : Hid (j' = scanDown (fun x => !ltU x dk[a]!) dk i' j) := Lib.hid ((scanDown_end (fun x => !ltU x dk[a]!) dk i' j' (Or.inl hle2)).symm.trans hsd.out)
                        clear hsd
                        obtain ⟨W3, hw3⟩ : ∃ W3 : World, W3 = wr.drewN nq := ⟨_, rfl⟩
                        have hW3 : Hid (Sw g o w dk W3) := Lib.hid (by rw [hw3]; exact hW.out.drewN _)
                        rw [← hw3]
                        clear hw3 hcw hW
                        have hc3 : ∀ t, t < d.size → W3.cell? ⟨g, o + t, none⟩ = some (.int .u32 (Gk t)) := fun t ht => by rw [AG.out]; exact (hW3.out.holds HH.out hs t (by omega)).1
                        have hf3 : ∀ t, t < d.size → W3.frozen? ⟨g, o + t, none⟩ = false := fun t ht => (hW3.out.holds HH.out hs t (by omega)).2
                        obtain ⟨v3, hy3⟩ := cell?_setCell_some (w := W3) (p := ⟨g, o + j', none⟩) (x := .int .u32 (Gk a)) (q := ⟨g, o + a, none⟩) (hc3 a (by omega))
                        have hlj : j' < d.size := by omega
                        go_wp2
                        go_region
                        all_goals go_wp2
                        all_goals go_ret2
                        have e : Sort.partition ltU d a b pivot = (j', false, swp dk j' a) := by rw [HP.out, ← AE.out, part_break ltU a i j dk hi2.out hj2.out (by omega)]
                        refine ⟨?_, ?_⟩
                        · rw [e]; rfl
                        · rw [e, AG.out a, AG.out j']
                          exact (hW3.out.swap (i := j') (j := a) (by omega) (by omega)).drew
          · go_wp2_with fail
            go_big_quiet (first | (go_at_call 185; refine Calls.quiet_of_same (lessU _ _ _)))
            have hj2 : Hid (j' = scanDown (fun x => !ltU x dk[a]!) dk i' j) := Lib.hid ((scanDown_end (fun x => !ltU x dk[a]!) dk i' j' (Or.inl hle2)).symm.trans hsd.out)
            clear hsd
            obtain ⟨W3, hw3⟩ : ∃ W3 : World, W3 = wr.drewN nq := ⟨_, rfl⟩
            have hW3 : Hid (Sw g o w dk W3) := Lib.hid (by rw [hw3]; exact hW.out.drewN _)
            rw [← hw3]
            clear hw3 hcw hW
            have hc3 : ∀ t, t < d.size → W3.cell? ⟨g, o + t, none⟩ = some (.int .u32 (Gk t)) := fun t ht => by rw [AG.out]; exact (hW3.out.holds HH.out hs t (by omega)).1
            have hf3 : ∀ t, t < d.size → W3.frozen? ⟨g, o + t, none⟩ = false := fun t ht => (hW3.out.holds HH.out hs t (by omega)).2
            obtain ⟨v3, hy3⟩ := cell?_setCell_some (w := W3) (p := ⟨g, o + j', none⟩) (x := .int .u32 (Gk a)) (q := ⟨g, o + a, none⟩) (hc3 a (by omega))
            have hlj : j' < d.size := by omega
            go_wp2
            go_region
            all_goals go_wp2
            all_goals go_ret2
            have e : Sort.partition ltU d a b pivot = (j', true, swp dk j' a) := part_first_break ltU d a b pivot HI.out HJ.out HDK.out hi2.out hj2.out (by omega)
            refine ⟨?_, ?_⟩
            · rw [e]; rfl
            · rw [e, AG.out a, AG.out j']
              exact (hW3.out.swap (i := j') (j := a) (by omega) (by omega)).drew
    · go_wp2_with fail
      go_big_quiet (first | (go_at_call 185; refine Calls.quiet_of_same (lessU _ _ _)))
      go_wp2
      have hi2 : Hid (i' = scanUp (fun x => ltU x dk[a]!) dk j i) := Lib.hid ((scanUp_end (fun x => ltU x dk[a]!) dk j i' (Or.inl hle)).symm.trans hsc.out)
      clear hcw hsc
      go_loopw [11] (fun vj w2 => ∃ (j' : Nat), vj = .int .i64 j' ∧ j' ≤ j ∧ i' ≤ j' + 1 ∧ Hid (Sw g o w dk w2) ∧ Hid (scanDown (fun x => !ltU x dk[a]!) dk i' j' = scanDown (fun x => !ltU x dk[a]!) dk i' j)) (fun vj _ => (intOf vj).toNat)
      case atStart => exact ⟨j, rfl, Nat.le_refl _, hij', Lib.hid (hW.out.drewN _), Lib.hid rfl⟩
      case round =>
        clear hW nq
        obtain ⟨j', rfl, hjj, hij2, hW, hsd⟩ := hrel
        have hcw : ∀ t, t < d.size → World.cell? wr ⟨g, o + t, none⟩ = some (.int .u32 (Gk t)) := fun t ht => by rw [AG.out]; exact (hW.out.holds HH.out hs t (by omega)).1
        by_cases hle2 : i' ≤ j'
        · exfalso; omega
        · go_wp2_with fail
          go_big_quiet (first | (go_at_call 185; refine Calls.quiet_of_same (lessU _ _ _)))
          have hj2 : Hid (j' = scanDown (fun x => !ltU x dk[a]!) dk i' j) := Lib.hid ((scanDown_end (fun x => !ltU x dk[a]!) dk i' j' (Or.inl hle2)).symm.trans hsd.out)
          clear hsd
          obtain ⟨W3, hw3⟩ : ∃ W3 : World, W3 = wr.drewN nq := ⟨_, rfl⟩
          have hW3 : Hid (Sw g o w dk W3) := Lib.hid (by rw [hw3]; exact hW.out.drewN _)
          rw [← hw3]
          clear hw3 hcw hW
          have hc3 : ∀ t, t < d.size → W3.cell? ⟨g, o + t, none⟩ = some (.int .u32 (Gk t)) := fun t ht => by rw [AG.out]; exact (hW3.out.holds HH.out hs t (by omega)).1
          have hf3 : ∀ t, t < d.size → W3.frozen? ⟨g, o + t, none⟩ = false := fun t ht => (hW3.out.holds HH.out hs t (by omega)).2
          obtain ⟨v3, hy3⟩ := cell?_setCell_some (w := W3) (p := ⟨g, o + j', none⟩) (x := .int .u32 (Gk a)) (q := ⟨g, o + a, none⟩) (hc3 a (by omega))
          have hlj : j' < d.size := by omega
          go_wp2
          go_region
          all_goals go_wp2
          all_goals go_ret2
          have e : Sort.partition ltU d a b pivot = (j', true, swp dk j' a) := part_first_break ltU d a b pivot HI.out HJ.out HDK.out hi2.out hj2.out (by omega)
          refine ⟨?_, ?_⟩
          · rw [e]; rfl
          · rw [e, AG.out a, AG.out j']
            exact (hW3.out.swap (i := j') (j := a) (by omega) (by omega)).drew
end Go.Proofs.YthnfkjcndidoaaaGreatDoor
