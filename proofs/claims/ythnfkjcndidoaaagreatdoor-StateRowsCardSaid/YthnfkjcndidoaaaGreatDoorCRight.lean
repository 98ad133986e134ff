import Derived.Test.YthnfkjcndidoaaaGreatDoorCIs
import Derived.Test.YthnfkjcndidoaaaGreatDoorCClosed
set_option linter.unusedVariables false
set_option linter.unusedSimpArgs false
namespace Go.Proofs.YthnfkjcndidoaaaGreatDoor
open Go.RowKit Go.Shelf

/-! ### state.right -/
def rightB (l : List Pt) : Bool := decide ((l.map (·.id)).Nodup) && l.all isB
theorem right_dup {l : List Pt} {k : Nat} {x : Pt} (hx : l[k]? = some x) (h : ((l.take k).any fun q => decide (x.id = q.id)) = true) : rightB l = false := by
  have : ¬ (l.map (·.id)).Nodup := by
    intro hnd
    obtain ⟨q, hq, he⟩ := List.any_eq_true.1 h
    obtain ⟨j, hj, rfl⟩ := List.mem_take_iff_getElem.1 hq
    obtain ⟨hk, rfl⟩ := List.getElem?_eq_some_iff.1 hx
    have := List.pairwise_iff_getElem.1 hnd j k (by simp; omega) (by simpa using hk) (by omega)
    simp at this he
    exact this he.symm
  simp [rightB, this]
theorem nodup_snoc {l : List Pt} {k : Nat} {x : Pt} (hx : l[k]? = some x) (h : ((l.take k).map (·.id)).Nodup) (hn : ((l.take k).any fun q => decide (x.id = q.id)) = false) : ((l.take (k + 1)).map (·.id)).Nodup := by
  rw [List.take_add_one, hx]
  simp only [Option.toList_some, List.map_append, List.map_cons, List.map_nil]
  rw [List.nodup_append]
  refine ⟨h, by simp, fun a ha b hb => ?_⟩
  obtain ⟨q, hq, rfl⟩ := List.mem_map.1 ha
  have := List.any_eq_false.1 hn q hq
  simp at hb this
  omega
set_option maxHeartbeats 4000000 in
set_option maxRecDepth 100000 in
theorem right_any {w : World} {A : Option Addr} {c : Nat} {l : List Pt} (h : SlIs rPt w (.slice A l.length c) l) (hN : ∀ p ∈ l, (ptNeeds p).length ≤ 1000000) : Calls Tryz.prog 33 #[.slice A l.length c] w fun e w' => e = .returned (.bool (rightB l)) ∧ Fr No w w' := by
  have H := Lib.hid h
  have HN := Lib.hid hN
  obtain ⟨_, _, _, _, hb⟩ := h.form
  clear h hN
  have hmm := @run_makeMap Tryz.prog
  go_enter Tryz.func33, Tryz.ntmps33
  go_wp2
  refine namedN (fun W1 hW1 => ?_)
  have hf1 : Fr No w W1 := by rw [hW1]; exact Fr.alloc _ _ _
  have hM : MpIs encN encB W1 w.heap.size (fun _ => none) := by rw [hW1]; exact MpIs.made w
  have HM := Lib.hid hM
  have HF1 := Lib.hid hf1
  clear hW1 hM hf1
  go_loopw [9] (fun i wr => ∃ k : Nat, i = .int .i64 k ∧ k ≤ l.length ∧ Hid (MpIs encN encB wr w.heap.size (mapTo l k)) ∧ Hid ((l.take k).all isB = true ∧ ((l.take k).map (·.id)).Nodup) ∧ Hid (Fr No w wr)) (fun i _ => l.length - (intOf i).toNat)
  case atStart => exact ⟨0, rfl, Nat.zero_le _, Lib.hid (by rw [mapTo_zero]; exact HM.out), Lib.hid (by simp), HF1⟩
  case round =>
    clear HM HF1
    obtain ⟨k, rfl, hk, hM, hS, hf⟩ := hrel
    by_cases hlt : k < l.length
    · obtain ⟨b, o, x, Ad, cd, Am, cm, Ar, cr, Ah, ch, rfl, hx, k0, k1, k2, k3, k4, hp⟩ := at_pt (H.out.fr hf.out) k hlt
      have HX := Lib.hid hx
      have hal : Fr No wr (wr.alloc (.cells #[.int .u32 x.id, .slice Ad x.deps.length cd, .slice Am x.makes.length cm, .slice Ar x.drops.length cr, .slice Ah x.hunks.length ch] 52)) := Fr.alloc _ _ _
      have hpb : PtBox (wr.alloc (.cells #[.int .u32 x.id, .slice Ad x.deps.length cd, .slice Am x.makes.length cm, .slice Ar x.drops.length cr, .slice Ah x.hunks.length ch] 52)) wr.heap.size x Ad cd Am cm Ar cr Ah ch := heap_last _ _
      have HP := Lib.hid (And.intro (hp.fr hal) (And.intro hpb (And.intro (hM.out.fr hal (fun e => e)) hal)))
      have HNX := Lib.hid (HN.out x (List.mem_of_getElem? hx))
      clear hx hp hpb hal
      cases hv : (l.take k).any (fun q => decide (x.id = q.id)) with
      | true =>
        have HV := Lib.hid hv
        clear hv
        go_wp2_with (at_lookup; refine mpLook1 rfl _ _ _ rfl _ _ keyN encB_inj Tryz.underlying86 false (zeroB _) w.heap.size _ rfl HP.out.2.2.1 x.id rfl (.bool true) (by rw [mapTo_getD, HV.out]; rfl) ?_)
        go_ret
        exact ⟨by rw [right_dup HX.out HV.out]; rfl, hf.out.trans HP.out.2.2.2⟩
      | false =>
        have HV := Lib.hid hv
        clear hv
        cases hi : isB x with
        | false =>
          have HI := Lib.hid hi
          clear hi
          go_wp2_with (first
            | (at_lookup; refine mpLook1 rfl _ _ _ rfl _ _ keyN encB_inj Tryz.underlying86 false (zeroB _) w.heap.size _ rfl HP.out.2.2.1 x.id rfl (.bool false) (by rw [mapTo_getD, HV.out]; rfl) ?_)
            | (go_at_call 57; refine (is_any HP.out.1 HNX.out).mono ?_; rw [HI.out]; rintro e w2 ⟨rfl, hf2⟩))
          go_ret
          refine ⟨?_, (hf.out.trans HP.out.2.2.2).trans hf2⟩
          rw [rightB, all_false (f := isB) HX.out HI.out, Bool.and_false]
          rfl
        | true =>
          have HI := Lib.hid hi
          clear hi
          go_wp2_with (first
            | (at_lookup; refine mpLook1 rfl _ _ _ rfl _ _ keyN encB_inj Tryz.underlying86 false (zeroB _) w.heap.size _ rfl HP.out.2.2.1 x.id rfl (.bool false) (by rw [mapTo_getD, HV.out]; rfl) ?_)
            | (go_at_call 57; refine (is_any HP.out.1 HNX.out).mono ?_; rw [HI.out]; rintro e w2 ⟨rfl, hf2⟩; have c0 := (fr_pt HP.out.2.1 hf2).1)
            | (at_mapUpdate; refine mpStore rfl _ _ _ _ rfl _ _ keyN encB_inj Tryz.underlying86 w.heap.size _ rfl (HP.out.2.2.1.fr hf2 (fun e => e)) x.id rfl true rfl ?_; intro w3 hm3 hf3; clear k0 k1 k2 k3 k4 c0))
          go_roundw
          case rel =>
            have hf4 := ((hf.out.trans HP.out.2.2.2).trans hf2).comp hf3 (T := No) (fun _ _ e => e) (fun i hi e => by have e : i = w.heap.size := e; omega)
            exact ⟨k + 1, by go_num, by omega, Lib.hid (hm3.congr (mapTo_succ HX.out)), Lib.hid ⟨all_take_succ hS.out.1 HX.out HI.out, nodup_snoc HX.out hS.out.2 HV.out⟩, Lib.hid hf4⟩
          case measure => simp [intOf]; omega
    · rw [List.take_of_length_le (by omega)] at hS
      go_wp2
      go_ret
      exact ⟨by rw [rightB, hS.out.1, decide_eq_true hS.out.2]; rfl, hf.out⟩
end Go.Proofs.YthnfkjcndidoaaaGreatDoor
