import Derived.Test.YthnfkjcndidoaaaGreatDoorCSortH
import Derived.Sort.Walk13

set_option linter.unusedVariables false
set_option linter.unusedSimpArgs false
namespace Go.Proofs.YthnfkjcndidoaaaGreatDoor
open Go.RowKit Go.Shelf Go.Sort
theorem swoU : SWO ltU where
  irrefl := fun x => by simp [ltU]
  trans := fun x y z h1 h2 => by simp [ltU] at *; omega
  ntrans := fun x y z h1 h2 => by simp [ltU] at *; omega
set_option maxHeartbeats 12800000 in
set_option maxRecDepth 1000000 in
theorem pdqsortU : ∀ (N g o cap a b limit : Nat) (d : Array Nat) (w : World), b - a < N → Holds encU w g o d → g < w.heap.size → a ≤ b → b ≤ d.size → d.size < 4611686018427387904 → limit < 4611686018427387904 → Go.Sort.Below ltU a b d →
    Calls Tryz.prog 174 #[.slice (some ⟨g, o, none⟩) d.size cap, .int .i64 a, .int .i64 b, .int .i64 limit] w fun e w' => e = .returned (.tuple #[]) ∧ Sw g o w (pdq ltU d a b limit true true) w' := by
  intro N
  induction N with
  | zero => intro _ _ _ _ _ _ _ _ h; exact absurd h (Nat.not_lt_zero _)
  | succ N ih =>
    intro g o cap a b limit d w hN hH hgw hab hb hsz hlimit hBel0
    have HH := Lib.hid hH
    have H0 := Lib.hid (Sw.refl hH)
    have HB0 := Lib.hid hBel0
    have IH := Lib.hid ih
    clear hH hBel0 ih
    go_enter Tryz.func174, Tryz.ntmps174
    go_wp2
    go_loopg [1, 2, 3, 8, 9] (b - a) (fun k s1 s2 s3 s8 s9 wr => ∃ (a' b' lim : Nat) (wb wp : Bool) (dk : Array Nat), s1 = .int .i64 a' ∧ s2 = .int .i64 b' ∧ s3 = .int .i64 lim ∧ s8 = .bool wb ∧ s9 = .bool wp ∧
      a' ≤ b' ∧ b' ≤ d.size ∧ b' - a' ≤ k ∧ k ≤ b - a ∧ lim ≤ limit ∧ dk.size = d.size ∧ Hid (Go.Sort.Below ltU a' b' dk) ∧ Hid (Sw g o w dk wr) ∧ Hid (pdq ltU dk a' b' lim wb wp = pdq ltU d a b limit true true))
    case atStart => exact ⟨a, b, limit, true, true, d, rfl, rfl, rfl, rfl, rfl, hab, hb, Nat.le_refl _, Nat.le_refl _, Nat.le_refl _, rfl, HB0, H0, Lib.hid rfl⟩
    case round =>
      obtain ⟨a', b', lim, wb, wp, dk, rfl, rfl, rfl, rfl, rfl, hab', hb', hk, hkN, hlim, hds, hBel, hW, A⟩ := hrel
      have hgk : g < wr.heap.size := Nat.lt_of_lt_of_le hgw hW.out.fr.size
      have HK := Lib.hid (hW.out.holds HH.out hds)
      by_cases h12 : b' - a' ≤ 12
      · have h12z : (b' : Int) - (a' : Int) ≤ 12 := by omega
        have hc := insertionSortU g o cap a' b' dk wr HK.out hab' (by omega) (by omega)
        rw [hds] at hc
        have HC := Lib.hid hc
        clear hc
        go_wp2_with (go_at_call 179; refine HC.out.mono ?_; rintro e w1 ⟨rfl, hw1⟩)
        (try simp only [Exit.inBlock, Exit.then]); refine bodyPost_ret (results_none rfl _ _ _) rfl ?_
        refine ⟨rfl, ?_⟩
        rw [← A.out, pdq_small h12]
        exact hW.out.step hw1 (insertionSort_holds swoU dk a' b' hab' (by omega)).1.1
      · have h12z : ¬ ((b' : Int) - (a' : Int) ≤ 12) := by omega
        by_cases hl0 : lim = 0
        · subst hl0
          have hc := Lib.hid (heapSortU g o cap d.size dk hds a' b' wr HK.out hab' (by omega) (by omega))
          go_wp2_with (go_at_call 180; refine hc.out.mono ?_; rintro e w1 ⟨rfl, hw1⟩)
          (try simp only [Exit.inBlock, Exit.then]); refine bodyPost_ret (results_none rfl _ _ _) rfl ?_
          refine ⟨rfl, ?_⟩
          rw [← A.out, pdq_heap h12 rfl]
          exact hW.out.step hw1 (heapSort_holds swoU dk a' b' hab' (by omega)).1.1
        · have hl0z : ¬ ((lim : Int) = 0) := by omega
          obtain ⟨s1, B1, hc1, s2, B2, hpv, s3, B3⟩ := rd_facts (limit := lim) (wb := wb) (wp := wp) swoU partialInsertionSort_holds reverseRange_holds (show a' < b' by omega) (show b' ≤ dk.size by omega) hBel.out
          have B3 := Lib.hid B3
          clear B1 B2
          go_upto_if 35 with fail
          go_cut [3] from 19 (fun s3 wc => s3 = .int .i64 (rd ltU dk a' b' lim wb wp).lim ∧ Hid (Sw g o w (rd ltU dk a' b' lim wb wp).d1 wc))
          case first =>
            cases wb
            · have hc := breakPatternsU g o cap a' b' dk wr HK.out hgk (by omega) (by omega) (by omega)
              rw [hds] at hc
              have HC := Lib.hid hc
              clear hc
              go_wp2_with (go_at_call 181; refine HC.out.mono ?_; rintro e w1 ⟨rfl, hw1⟩)
              go_meet
              case rel =>
                refine ⟨?_, Lib.hid (hW.out.step hw1 s1)⟩
                show Value.int .i64 ((lim : Int) - 1) = Value.int .i64 ((lim - 1 : Nat) : Int)
                congr 1
                omega
            · go_wp2_with fail
              go_meet
              case rel => exact ⟨rfl, hW⟩
          case rest =>
            clear hW HK hgk
            obtain ⟨rfl, hW1⟩ := hcut
            have hg1 : g < wc.heap.size := Nat.lt_of_lt_of_le hgw hW1.out.fr.size
            have hc17 : Hid (Calls Tryz.prog 182 #[.slice (some ⟨g, o, none⟩) d.size cap, .int .i64 a', .int .i64 b'] wc fun e w' => e = .returned (.tuple #[.int .i64 ((rd ltU dk a' b' lim wb wp).c.1 : Nat), .int .i64 (hintCode (rd ltU dk a' b' lim wb wp).c.2)]) ∧ Fr No wc w') := by
              have := choosePivotU g o cap (rd ltU dk a' b' lim wb wp).d1 a' b' wc (hW1.out.holds HH.out (s1.trans hds)) hg1 (by omega) (by omega) (by omega)
              rw [s1, hds] at this
              exact Lib.hid this
            go_upto_if 50 with (go_at_call 182; refine hc17.out.mono ?_; rintro e w2 ⟨rfl, hw2⟩)
            have hW2 := Lib.hid (hW1.out.quiet hw2 hg1)
            clear hw2
            go_cut [11, 12] from 19 (fun s11 s12 wc => s11 = .int .i64 (rd ltU dk a' b' lim wb wp).pivot ∧ s12 = .int .i64 (hintCode (rd ltU dk a' b' lim wb wp).hint) ∧ Hid (Sw g o w (rd ltU dk a' b' lim wb wp).d2 wc))
            case first =>
              by_cases hh : (rd ltU dk a' b' lim wb wp).c.2 = .decreasing
              · have hcode : hintCode (rd ltU dk a' b' lim wb wp).c.2 = 2 := by rw [hh]; rfl
                obtain ⟨e2, epv, eht⟩ := rd_dec hh
                have hc18 := reverseRangeU g o cap (rd ltU dk a' b' lim wb wp).d1 a' b' w2 (hW2.out.holds HH.out (s1.trans hds)) hab' (by omega) (by omega)
                rw [s1, hds] at hc18
                have HC := Lib.hid hc18
                clear hc18
                go_wp2_with (go_at_call 183; refine HC.out.mono ?_; rintro e w3 ⟨rfl, hw3⟩)
                go_meet
                case rel =>
                  refine ⟨?_, by rw [eht]; rfl, Lib.hid (by rw [e2]; exact hW2.out.step hw3 (by rw [← e2, s2, s1]))⟩
                  rw [epv]
                  congr 1
                  omega
              · have hcode : ¬ (hintCode (rd ltU dk a' b' lim wb wp).c.2 = 2) := fun h => hh (hintCode_two h)
                obtain ⟨e2, epv, eht⟩ := rd_not hh
                go_wp2_with fail
                go_meet
                case rel => exact ⟨by rw [epv], by rw [eht], Lib.hid (by rw [e2]; exact hW2.out)⟩
            case rest =>
              clear hW2 hW1 hc17 hg1
              obtain ⟨rfl, rfl, hW3⟩ := hcut
              go_upto_region 15 with fail
              go_cut [12, 68] from 19 (fun s12 s68 wx => s12 = .int .i64 (hintCode (rd ltU dk a' b' lim wb wp).hint) ∧ s68 = .bool (wb && wp && decide ((rd ltU dk a' b' lim wb wp).hint = .increasing)) ∧ Hid (Sw g o w (rd ltU dk a' b' lim wb wp).d2 wx))
              case first =>
                cases wb <;> cases wp <;> cases hh3 : (rd ltU dk a' b' lim _ _).hint <;>
                  (have hcode3 := congrArg hintCode hh3
                   simp only [hintCode] at hcode3
                   go_wp2_with fail
                   go_meet
                   exact ⟨by simp [hh3, hintCode], by simp [hh3, hintCode], hW3⟩)
              case rest =>
                clear hW3
                obtain ⟨rfl, rfl, hW3⟩ := hcut
                go_upto_if 68 with fail
                go_cut [] from 19 (fun wx => Hid ((rd ltU dk a' b' lim wb wp).pi.2 = false) ∧ Hid (Sw g o w (rd ltU dk a' b' lim wb wp).pi.1 wx))
                case first =>
                  cases h68 : (wb && wp && decide ((rd ltU dk a' b' lim wb wp).hint = .increasing))
                  · have epi := rd_pi_no h68
                    go_wp2_with fail
                    go_meet
                    case rel => exact ⟨Lib.hid (by rw [epi]), Lib.hid (by rw [epi]; exact hW3.out)⟩
                  · have epi := rd_pi_yes h68
                    have hc19 := partialInsertionSortU g o cap a' b' (rd ltU dk a' b' lim wb wp).d2 wc (hW3.out.holds HH.out (s2.trans hds)) (by omega) (by omega) (by omega)
                    rw [s2, hds, ← epi] at hc19
                    have HC := Lib.hid hc19
                    clear hc19
                    go_wp2_with (go_at_call 184; refine HC.out.mono ?_; rintro e w4 ⟨rfl, hw4⟩)
                    all_goals first
                      | (have hp2 : (rd ltU dk a' b' lim wb wp).pi.2 = false := by rw [epi]; assumption
                         go_meet
                         exact ⟨Lib.hid hp2, Lib.hid (hW3.out.step hw4 (by rw [s3, s2]))⟩)
                      | (have hp2 : (rd ltU dk a' b' lim wb wp).pi.2 = true := by rw [epi]; assumption
                         (try simp only [Exit.inBlock, Exit.then]); refine bodyPost_ret (results_none rfl _ _ _) rfl ?_
                         refine ⟨rfl, ?_⟩
                         rw [← A.out, pdq_done h12 hl0 hp2]
                         exact hW3.out.step hw4 (by rw [s3, s2]))
                case rest =>
                  clear hW3
                  obtain ⟨hp2, hW5⟩ := hcut
                  obtain ⟨G, hG, hcw, hfw⟩ := hW5.out.fam HH.out (s3.trans hds) d.size rfl
                  go_upto_region 17 with fail
                  go_cut [87] from 19 (fun s87 wx => s87 = .bool (decide (a' > 0) && !ltU (G (a' - 1)) (G (rd ltU dk a' b' lim wb wp).pivot)) ∧ Hid (Sw g o w (rd ltU dk a' b' lim wb wp).pi.1 wx))
                  case first =>
                    rcases Nat.eq_zero_or_pos a' with ha0 | ha0
                    · have ha0z : decide ((a' : Int) > 0) = false := decide_eq_false (by omega)
                      go_big_quiet (first | (go_at_call 185; refine Calls.quiet_of_same (lessU _ _ _)))
                      go_wp2_with fail
                      go_meet
                      case rel => exact ⟨by simp [ha0], Lib.hid (hW5.out.drewN nq)⟩
                    · have ha0z : (a' : Int) > 0 := by omega
                      go_big_quiet (first | (go_at_call 185; refine Calls.quiet_of_same (lessU _ _ _)))
                      go_wp2_with fail
                      go_meet
                      case rel => exact ⟨by simp [ha0], Lib.hid (hW5.out.drewN nq)⟩
                  case rest =>
                    obtain ⟨rfl, hW6⟩ := hcut
                    clear hcw hfw hW5
                    have hg6 : g < wc.heap.size := Nat.lt_of_lt_of_le hgw hW6.out.fr.size
                    have H6 := Lib.hid (hW6.out.holds HH.out (s3.trans hds))
                    cases h87 : (decide (a' > 0) && !ltU (G (a' - 1)) (G (rd ltU dk a' b' lim wb wp).pivot))
                    · rw [hG.out, hG.out] at h87
                      obtain ⟨mid, ap, d4, hx⟩ : ∃ mid ap d4, partition ltU (rd ltU dk a' b' lim wb wp).pi.1 a' b' (rd ltU dk a' b' lim wb wp).pivot = (mid, ap, d4) := ⟨(partition ltU (rd ltU dk a' b' lim wb wp).pi.1 a' b' (rd ltU dk a' b' lim wb wp).pivot).1, (partition ltU (rd ltU dk a' b' lim wb wp).pi.1 a' b' (rd ltU dk a' b' lim wb wp).pivot).2.1, (partition ltU (rd ltU dk a' b' lim wb wp).pi.1 a' b' (rd ltU dk a' b' lim wb wp).pivot).2.2, rfl⟩
                      obtain ⟨r1, r2, r3, r4, r5, r6, r7⟩ := round_part swoU (partition_holds _) hpv.1 hpv.2 (show b' ≤ (rd ltU dk a' b' lim wb wp).pi.1.size by omega) B3.out hx
                      have hc22 := partitionU g o cap a' b' (rd ltU dk a' b' lim wb wp).pivot (rd ltU dk a' b' lim wb wp).pi.1 wc H6.out hpv.1 hpv.2 (by omega) (by omega)
                      rw [s3, hds, hx] at hc22
                      have HC := Lib.hid hc22
                      have X := Lib.hid hx
                      have H87 := Lib.hid h87
                      have R4 := Lib.hid r4
                      have R5 := Lib.hid r5
                      have R6 := Lib.hid r6
                      have R7 := Lib.hid r7
                      clear hx hc22 h87 r4 r5 r6 r7
                      go_upto_if 113 with (go_at_call 187; refine HC.out.mono ?_; rintro e w7 ⟨rfl, hw7⟩)
                      have hW7 := Lib.hid (hW6.out.step hw7 r3)
                      have hs4 : d4.size = d.size := r3.trans (s3.trans hds)
                      have hg7 : g < w7.heap.size := Nat.lt_of_lt_of_le hgw hW7.out.fr.size
                      clear hw7 HC
                      by_cases h4 : mid - a' < b' - mid
                      · have h4z : (mid : Int) - (a' : Int) < (b' : Int) - (mid : Int) := by omega
                        have hih := IH.out g o cap a' mid (rd ltU dk a' b' lim wb wp).lim d4 w7 (by omega) (hW7.out.holds HH.out hs4) hg7 (by omega) (by omega) (by omega) (Nat.lt_of_le_of_lt (Nat.le_trans rd_lim_le hlim) hlimit) R4.out
                        rw [hs4] at hih
                        have HI := Lib.hid hih
                        clear hih
                        obtain ⟨pL, sL⟩ := pdq_sorts ltU swoU d4 a' mid (rd ltU dk a' b' lim wb wp).lim true true (by omega) (by omega) R4.out
                        have PL := Lib.hid pL
                        have SL := Lib.hid sL
                        clear pL sL
                        go_wp2_with (go_at_call 174; refine HI.out.mono ?_; rintro e w8 ⟨rfl, hw8⟩)
                        go_roundg (b' - (mid + 1))
                        case measure => omega
                        case rel =>
                          refine ⟨mid + 1, b', (rd ltU dk a' b' lim wb wp).lim, decide (mid - a' ≥ (b' - a') / 8), ap, pdq ltU d4 a' mid (rd ltU dk a' b' lim wb wp).lim true true, by simp, rfl, rfl, ?_, rfl, by omega, by omega, Nat.le_refl _, by omega, Nat.le_trans rd_lim_le hlim, by rw [PL.out.1, hs4], Lib.hid (R6.out _ PL.out SL.out).1, Lib.hid (hW7.out.step hw8 PL.out.1), ?_⟩
                          · exact congrArg Value.bool (eighth (by omega) (by omega))
                          · exact Lib.hid (by rw [← A.out, pdq_left h12 hl0 hp2.out H87.out (by rw [X.out]; exact ⟨r1, r2⟩) (by rw [X.out]; exact h4), X.out])
                      · have h4z : ¬ ((mid : Int) - (a' : Int) < (b' : Int) - (mid : Int)) := by omega
                        have hih := IH.out g o cap (mid + 1) b' (rd ltU dk a' b' lim wb wp).lim d4 w7 (by omega) (hW7.out.holds HH.out hs4) hg7 (by omega) (by omega) (by omega) (Nat.lt_of_le_of_lt (Nat.le_trans rd_lim_le hlim) hlimit) R5.out
                        rw [hs4] at hih
                        have HI := Lib.hid hih
                        clear hih
                        obtain ⟨pL, sL⟩ := pdq_sorts ltU swoU d4 (mid + 1) b' (rd ltU dk a' b' lim wb wp).lim true true (by omega) (by omega) R5.out
                        have PL := Lib.hid pL
                        have SL := Lib.hid sL
                        clear pL sL
                        go_wp2_with (go_at_call 174; refine HI.out.mono ?_; rintro e w8 ⟨rfl, hw8⟩)
                        go_roundg (mid - a')
                        case measure => omega
                        case rel =>
                          refine ⟨a', mid, (rd ltU dk a' b' lim wb wp).lim, decide (b' - mid ≥ (b' - a') / 8), ap, pdq ltU d4 (mid + 1) b' (rd ltU dk a' b' lim wb wp).lim true true, rfl, rfl, rfl, ?_, rfl, by omega, by omega, Nat.le_refl _, by omega, Nat.le_trans rd_lim_le hlim, by rw [PL.out.1, hs4], Lib.hid (R7.out _ PL.out SL.out).1, Lib.hid (hW7.out.step hw8 PL.out.1), ?_⟩
                          · exact congrArg Value.bool (eighth (by omega) (by omega))
                          · exact Lib.hid (by rw [← A.out, pdq_right h12 hl0 hp2.out H87.out (by rw [X.out]; exact ⟨r1, r2⟩) (by rw [X.out]; exact h4), X.out])
                    · rw [hG.out, hG.out] at h87
                      have h87' := h87
                      simp only [Bool.and_eq_true, decide_eq_true_eq, Bool.not_eq_true'] at h87'
                      obtain ⟨mid, d4, hx⟩ : ∃ mid d4, partitionEqual ltU (rd ltU dk a' b' lim wb wp).pi.1 a' b' (rd ltU dk a' b' lim wb wp).pivot = (mid, d4) := ⟨(partitionEqual ltU (rd ltU dk a' b' lim wb wp).pi.1 a' b' (rd ltU dk a' b' lim wb wp).pivot).1, (partitionEqual ltU (rd ltU dk a' b' lim wb wp).pi.1 a' b' (rd ltU dk a' b' lim wb wp).pivot).2, rfl⟩
                      obtain ⟨r1, r2, r3, r4, _⟩ := round_eq swoU (partitionEqual_holds _) h87'.1 hpv.1 hpv.2 (show b' ≤ (rd ltU dk a' b' lim wb wp).pi.1.size by omega) B3.out h87'.2 hx
                      have hc21 := partitionEqualU g o cap a' b' (rd ltU dk a' b' lim wb wp).pivot (rd ltU dk a' b' lim wb wp).pi.1 wc H6.out hpv.1 hpv.2 (by omega) (by omega)
                      rw [s3, hds, hx] at hc21
                      have HC := Lib.hid hc21
                      have X := Lib.hid hx
                      have H87 := Lib.hid h87
                      have R4 := Lib.hid r4
                      clear hx hc21 h87 h87' r4
                      go_wp2_with (go_at_call 186; refine HC.out.mono ?_; rintro e w7 ⟨rfl, hw7⟩)
                      go_roundg (b' - mid)
                      case measure => omega
                      case rel =>
                        exact ⟨mid, b', (rd ltU dk a' b' lim wb wp).lim, wb, wp, d4, rfl, rfl, rfl, rfl, rfl, r2, hb', Nat.le_refl _, by omega, Nat.le_trans rd_lim_le hlim, by rw [r3, s3, hds], R4, Lib.hid (hW6.out.step hw7 r3), Lib.hid (by rw [← A.out, pdq_eq h12 hl0 hp2.out H87.out (by rw [X.out]; exact ⟨r1, r2⟩), X.out])⟩
end Go.Proofs.YthnfkjcndidoaaaGreatDoor
