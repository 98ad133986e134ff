import Derived.Test.YthnfkjcndidoaaaGreatDoorCData
import Derived.Test.YthnfkjcndidoaaaGreatDoorCBits
set_option linter.unusedVariables false
set_option linter.unusedSimpArgs false
namespace Go.Proofs.YthnfkjcndidoaaaGreatDoor
open Go.RowKit Go.Shelf

def fewH (h : Hk) : Bool := decide (h.adds.length ≤ 50) && (decide (h.edges.length ≤ 90) && (decide (h.kills.length ≤ 50) && (decide (h.path.size ≤ 40) && h.adds.all fun s => decide (s.size ≤ 100))))
def fewB (p : Pt) : Bool := p.hunks.all fewH && (p.makes.all (fun s => decide (s.size ≤ 40)) && (p.drops.all (fun s => decide (s.size ≤ 40)) &&
  (decide (p.hunks.length ≤ 8) && (decide (p.deps.length ≤ 70) && (decide (p.makes.length ≤ 10) && decide (p.drops.length ≤ 10))))))
theorem fewH_cases (h : Hk) : (50 < h.adds.length ∧ Hid (fewH h = false)) ∨ (h.adds.length ≤ 50 ∧ 90 < h.edges.length ∧ Hid (fewH h = false)) ∨ (h.adds.length ≤ 50 ∧ h.edges.length ≤ 90 ∧ 50 < h.kills.length ∧ Hid (fewH h = false)) ∨
    (h.adds.length ≤ 50 ∧ h.edges.length ≤ 90 ∧ h.kills.length ≤ 50 ∧ 40 < h.path.size ∧ Hid (fewH h = false)) ∨ (h.adds.length ≤ 50 ∧ h.edges.length ≤ 90 ∧ h.kills.length ≤ 50 ∧ h.path.size ≤ 40) := by
  by_cases g1 : h.adds.length ≤ 50 <;> by_cases g2 : h.edges.length ≤ 90 <;> by_cases g3 : h.kills.length ≤ 50 <;> by_cases g4 : h.path.size ≤ 40 <;> simp [Hid, fewH, g1, g2, g3, g4] <;> omega
theorem all_take_succ {α : Type} {f : α → Bool} {xs : List α} {k : Nat} {x : α} (h : (xs.take k).all f = true) (hx : xs[k]? = some x) (hf : f x = true) : (xs.take (k + 1)).all f = true := by
  rw [List.take_add_one, hx, List.all_append, h]
  simp [hf]
theorem all_false {α : Type} {f : α → Bool} {xs : List α} {k : Nat} {x : α} (hx : xs[k]? = some x) (hf : f x = false) : xs.all f = false := by
  rw [List.all_eq_false]
  exact ⟨x, List.mem_of_getElem? hx, by simp [hf]⟩
theorem all_take {α : Type} {f : α → Bool} {xs : List α} {k : Nat} (h : (xs.take k).all f = true) (hk : xs.length ≤ k) : xs.all f = true := by rwa [List.take_of_length_le hk] at h

set_option maxHeartbeats 2000000 in
set_option maxRecDepth 100000 in
theorem few_any {w : World} {x : Pt} {Ad : Option Addr} {cd : Nat} {Am : Option Addr} {cm : Nat} {Ar : Option Addr} {cr : Nat} {Ah : Option Addr} {ch : Nat} (h : PtV w x Ad cd Am cm Ar cr Ah ch) :
    Calls Tryz.prog 32 #[.agg #[.int .u32 x.id, .slice Ad x.deps.length cd, .slice Am x.makes.length cm, .slice Ar x.drops.length cr, .slice Ah x.hunks.length ch]] w fun e w' => e = .returned (.bool (fewB x)) ∧ Fr No w w' := by
  have H := Lib.hid h
  obtain ⟨_, _, _, _, hb4⟩ := h.hunks.form
  obtain ⟨_, _, _, _, hb2⟩ := h.makes.form
  obtain ⟨_, _, _, _, hb3⟩ := h.drops.form
  clear h
  go_enter Tryz.func32, Tryz.ntmps32
  go_wp2
  refine namedN (fun W1 hW1 => ?_)
  have c0 : W1.heap[w.heap.size]? = some (.cells #[.int .u32 x.id, .slice Ad x.deps.length cd, .slice Am x.makes.length cm, .slice Ar x.drops.length cr, .slice Ah x.hunks.length ch] 52 (0, 0)) := by rw [hW1]; exact heap_last _ _
  have hf : Fr No w W1 := by rw [hW1]; exact Fr.alloc _ _ _
  clear hW1
  go_loopw [3] (fun i wr => ∃ k : Nat, i = .int .i64 k ∧ k ≤ x.hunks.length ∧ Hid ((x.hunks.take k).all fewH = true) ∧ Hid (Fr No W1 wr)) (fun i _ => x.hunks.length - (intOf i).toNat)
  case atStart => exact ⟨0, rfl, Nat.zero_le _, Lib.hid (by simp), Lib.hid (Fr.refl _ _)⟩
  case round =>
    obtain ⟨k, rfl, hk, hall, hf2⟩ := hrel
    have cc := hf2.out.heap (fun e => e) c0
    have cm := (cell_of_heap cc 4)
    by_cases hlt : k < x.hunks.length
    · obtain ⟨b, o, y, Aa, ca, Ae, ce, Ak, ck, rfl, hy, k0, k1, k2, k3, q1, q2, q3⟩ := at_hk (H.out.hunks.fr (hf.trans hf2.out)) k hlt
      have HY := Lib.hid (And.intro hy q1)
      obtain ⟨_, _, _, _, hbA⟩ := q1.form
      clear hy q1 q2 q3
      rcases fewH_cases y with ⟨g1, hF⟩ | ⟨g1, g2, hF⟩ | ⟨g1, g2, g3, hF⟩ | ⟨g1, g2, g3, g4, hF⟩ | ⟨g1, g2, g3, g4⟩
      rotate_left 4
      · go_wp2
        obtain ⟨wo, hwo⟩ : ∃ wo : World, wo = wr := ⟨_, rfl⟩
        rw [← hwo] at HY hf2 cc cm k0 k1 k2 k3 ⊢
        clear hwo k0 k1 k2 k3 cm
        have cy := heap_last wo (.cells #[.string y.path, .slice Aa y.adds.length ca, .slice Ae y.edges.length ce, .slice Ak y.kills.length ck] 57)
        have CY := Lib.hid (cell_of_heap cy 1)
        clear cy
        have hfa := Lib.hid (Fr.alloc No wo (.cells #[.string y.path, .slice Aa y.adds.length ca, .slice Ae y.edges.length ce, .slice Ak y.kills.length ck] 57))
        go_loopw [5] (fun i wq => ∃ j : Nat, i = .int .i64 j ∧ j ≤ y.adds.length ∧ Hid ((y.adds.take j).all (fun s => decide (s.size ≤ 100)) = true) ∧ Hid (wq = wo.alloc (.cells #[.string y.path, .slice Aa y.adds.length ca, .slice Ae y.edges.length ce, .slice Ak y.kills.length ck] 57))) (fun i _ => y.adds.length - (intOf i).toNat)
        case atStart => exact ⟨0, rfl, Nat.zero_le _, Lib.hid (by simp), Lib.hid rfl⟩
        case round =>
          obtain ⟨j, rfl, hj, hja, hwq⟩ := hrel
          obtain rfl := hwq.out
          have c1 := CY.out
          by_cases hlt2 : j < y.adds.length
          · obtain ⟨b2, o2, z, rfl, hz, kz⟩ := at_str (HY.out.2.fr hfa.out) j hlt2
            have HZ := Lib.hid hz
            clear hz
            by_cases hzz : z.size ≤ 100
            · have hzz' : decide ((100 : Int) < (z.size : Int)) = false := by simp; omega
              go_wp2
              go_roundw
              case rel => exact ⟨j + 1, by go_num, by omega, Lib.hid (all_take_succ hja.out HZ.out (by simp [hzz])), by first | exact Lib.hid rfl | exact Lib.hid trivial⟩
              case measure => simp [intOf]; omega
            · have hzz' : decide ((100 : Int) < (z.size : Int)) = true := by simp; omega
              go_wp2
              go_ret
              refine ⟨?_, (hf.trans hf2.out).trans (Fr.alloc _ _ _)⟩
              have hF : fewH y = false := by
                simp only [fewH, Bool.and_eq_false_iff]
                exact .inr (.inr (.inr (.inr (all_false HZ.out (by simp [hzz])))))
              rw [fewB, all_false HY.out.1 hF]; rfl
          · go_wp2
            go_roundw
            case rel =>
              have hF : fewH y = true := by
                simp only [fewH, Bool.and_eq_true, decide_eq_true_eq]
                exact ⟨by omega, by omega, by omega, by omega, all_take hja.out (by omega)⟩
              exact ⟨k + 1, by go_num, by omega, Lib.hid (all_take_succ hall.out HY.out.1 hF), Lib.hid (hf2.out.trans hfa.out)⟩
            case measure => simp [intOf]; omega
      all_goals
        go_wp2
        go_ret
        exact ⟨by rw [fewB, all_false HY.out.1 hF.out]; rfl, (hf.trans hf2.out).trans (Fr.alloc _ _ _)⟩
    · have hall4 := Lib.hid (all_take hall.out (by omega))
      clear hall
      go_wp2
      clear hk hlt
      obtain ⟨wo, hwo⟩ : ∃ wo : World, wo = wr := ⟨_, rfl⟩
      rw [← hwo] at hf2 ⊢
      clear hwo cc cm
      go_loopw [6] (fun i wq => ∃ k : Nat, i = .int .i64 k ∧ k ≤ x.makes.length ∧ Hid ((x.makes.take k).all (fun s => decide (s.size ≤ 40)) = true) ∧ Hid (Fr No W1 wq)) (fun i _ => x.makes.length - (intOf i).toNat)
      case atStart => exact ⟨0, rfl, Nat.zero_le _, Lib.hid (by simp), hf2⟩
      case round =>
        clear hf2
        obtain ⟨k, rfl, hk, hall2, hf2⟩ := hrel
        have cc := hf2.out.heap (fun e => e) c0
        have cm := (cell_of_heap cc 2)
        by_cases hlt : k < x.makes.length
        · obtain ⟨b, o, z, rfl, hz, kz⟩ := at_str (H.out.makes.fr (hf.trans hf2.out)) k hlt
          have HZ := Lib.hid hz
          clear hz
          by_cases hzz : z.size ≤ 40
          · have hzz' : decide ((40 : Int) < (z.size : Int)) = false := by simp; omega
            go_wp2
            go_roundw
            case rel => exact ⟨k + 1, by go_num, by omega, Lib.hid (all_take_succ hall2.out HZ.out (by simp [hzz])), hf2⟩
            case measure => simp [intOf]; omega
          · have hzz' : decide ((40 : Int) < (z.size : Int)) = true := by simp; omega
            go_wp2
            go_ret
            exact ⟨by rw [fewB, all_false (f := fun s => decide (s.size ≤ 40)) HZ.out (by simp [hzz])]; simp, hf.trans hf2.out⟩
        · have hall2 := Lib.hid (all_take hall2.out (by omega))
          go_wp2
          clear hk hlt
          obtain ⟨wo2, hwo2⟩ : ∃ wo2 : World, wo2 = wr := ⟨_, rfl⟩
          rw [← hwo2] at hf2 ⊢
          clear hwo2 cc cm
          go_loopw [7] (fun i wq => ∃ k : Nat, i = .int .i64 k ∧ k ≤ x.drops.length ∧ Hid ((x.drops.take k).all (fun s => decide (s.size ≤ 40)) = true) ∧ Hid (Fr No W1 wq)) (fun i _ => x.drops.length - (intOf i).toNat)
          case atStart => exact ⟨0, rfl, Nat.zero_le _, Lib.hid (by simp), hf2⟩
          case round =>
            clear hf2
            obtain ⟨k, rfl, hk, hall3, hf2⟩ := hrel
            have cc := hf2.out.heap (fun e => e) c0
            have cm := (cell_of_heap cc 3)
            by_cases hlt : k < x.drops.length
            · obtain ⟨b, o, z, rfl, hz, kz⟩ := at_str (H.out.drops.fr (hf.trans hf2.out)) k hlt
              have HZ := Lib.hid hz
              clear hz
              by_cases hzz : z.size ≤ 40
              · have hzz' : decide ((40 : Int) < (z.size : Int)) = false := by simp; omega
                go_wp2
                go_roundw
                case rel => exact ⟨k + 1, by go_num, by omega, Lib.hid (all_take_succ hall3.out HZ.out (by simp [hzz])), hf2⟩
                case measure => simp [intOf]; omega
              · have hzz' : decide ((40 : Int) < (z.size : Int)) = true := by simp; omega
                go_wp2
                go_ret
                exact ⟨by rw [fewB, all_false (f := fun s => decide (s.size ≤ 40)) HZ.out (by simp [hzz])]; simp, hf.trans hf2.out⟩
            · have hall3 := Lib.hid (all_take hall3.out (by omega))
              have cm4 := (cell_of_heap cc 4)
              have cm1 := (cell_of_heap cc 1)
              have cm2 := (cell_of_heap cc 2)
              have hres : ∀ v, v = (decide (x.hunks.length ≤ 8) && (decide (x.deps.length ≤ 70) && (decide (x.makes.length ≤ 10) && decide (x.drops.length ≤ 10)))) → fewB x = v := fun v hv => by
                rw [hv, fewB, hall4.out, hall2.out, hall3.out]; rfl
              have HRES := Lib.hid hres
              clear hres hall4 hall2 hall3
              by_cases g1 : x.hunks.length ≤ 8
              · by_cases g2 : x.deps.length ≤ 70
                · by_cases g3 : x.makes.length ≤ 10
                  · by_cases g4 : x.drops.length ≤ 10
                    all_goals
                      go_wp2
                      go_ret
                      refine ⟨by rw [HRES.out _ rfl]; simp [g1, g2, g3, g4]; try omega, hf.trans hf2.out⟩
                  · go_wp2
                    go_ret
                    refine ⟨by rw [HRES.out _ rfl]; simp [g1, g2, g3], hf.trans hf2.out⟩
                · go_wp2
                  go_ret
                  refine ⟨by rw [HRES.out _ rfl]; simp [g1, g2], hf.trans hf2.out⟩
              · go_wp2
                go_ret
                refine ⟨by rw [HRES.out _ rfl]; simp [g1], hf.trans hf2.out⟩

def fewAllB (l : List Pt) : Bool := l.all fewB && decide (l.length ≤ 16)
set_option maxHeartbeats 1000000 in
theorem fewAll_any {w : World} {A : Option Addr} {c : Nat} {l : List Pt} (h : SlIs rPt w (.slice A l.length c) l) : Calls Tryz.prog 10 #[.slice A l.length c] w fun e w' => e = .returned (.bool (fewAllB l)) ∧ Fr No w w' := by
  have H := Lib.hid h
  obtain ⟨_, _, _, _, hb⟩ := h.form
  clear h
  go_enter Tryz.func10, Tryz.ntmps10
  go_wp2
  go_loopw [3] (fun i wr => ∃ k : Nat, i = .int .i64 k ∧ k ≤ l.length ∧ Hid ((l.take k).all fewB = true) ∧ Hid (Fr No w wr)) (fun i _ => l.length - (intOf i).toNat)
  case atStart => exact ⟨0, rfl, Nat.zero_le _, Lib.hid (by simp), Lib.hid (Fr.refl _ _)⟩
  case round =>
    obtain ⟨k, rfl, hk, hall, hf⟩ := hrel
    by_cases hlt : k < l.length
    · obtain ⟨b, o, x, Ad, cd, Am, cm, Ar, cr, Ah, ch, rfl, hx, k0, k1, k2, k3, k4, hp⟩ := at_pt (H.out.fr hf.out) k hlt
      have HX := Lib.hid hx
      have HP := Lib.hid hp
      clear hx hp
      cases hv : fewB x with
      | true =>
        have HV := Lib.hid hv
        clear hv
        go_wp2_with (go_at_call 32; refine (few_any HP.out).mono ?_; rw [HV.out]; rintro e w' ⟨rfl, hf1⟩)
        go_roundw
        case rel => exact ⟨k + 1, by go_num, by omega, Lib.hid (all_take_succ hall.out HX.out HV.out), Lib.hid (hf.out.trans hf1)⟩
        case measure => simp [intOf]; omega
      | false =>
        have HV := Lib.hid hv
        clear hv
        go_wp2_with (go_at_call 32; refine (few_any HP.out).mono ?_; rw [HV.out]; rintro e w' ⟨rfl, hf1⟩)
        go_ret
        exact ⟨by rw [fewAllB, all_false HX.out HV.out]; rfl, hf.out.trans hf1⟩
    · have HA := Lib.hid (all_take hall.out (by omega))
      go_wp2
      go_ret
      refine ⟨?_, hf.out⟩
      rw [fewAllB, HA.out, Bool.true_and]
      simp only [Array.getD_eq_getD_getElem?]
      by_cases g : l.length ≤ 16 <;> simp [g] <;> omega
end Go.Proofs.YthnfkjcndidoaaaGreatDoor
