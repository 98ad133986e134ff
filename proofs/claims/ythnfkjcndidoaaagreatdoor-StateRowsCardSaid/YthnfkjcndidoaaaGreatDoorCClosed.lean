import Derived.Test.YthnfkjcndidoaaaGreatDoorCPaths
import Derived.Test.YthnfkjcndidoaaaGreatDoorCMap
set_option linter.unusedVariables false
set_option linter.unusedSimpArgs false
namespace Go.Proofs.YthnfkjcndidoaaaGreatDoor
open Go.RowKit Go.Shelf

/-! ### state.Closed -/
def closedB (l : List Pt) : Bool := l.all fun p => p.deps.all fun d => l.any fun q => decide (d = q.id)
/-- What the first k are told to be. -/
def mapTo (l : List Pt) (k : Nat) (id : Nat) : Option Bool := if (l.take k).any (fun q => decide (id = q.id)) then some true else none
theorem mapTo_zero (l : List Pt) : mapTo l 0 = fun _ => none := by funext id; simp [mapTo]
theorem mapTo_succ {l : List Pt} {k : Nat} {x : Pt} (hx : l[k]? = some x) (id : Nat) : (if id = x.id then some true else mapTo l k id) = mapTo l (k + 1) id := by
  unfold mapTo
  rw [List.take_add_one, hx]
  simp only [Option.toList_some, List.any_append, List.any_cons, List.any_nil, Bool.or_false]
  by_cases h : id = x.id <;> simp [h]
theorem mapTo_getD (l : List Pt) (k id : Nat) : ((mapTo l k id).getD false) = (l.take k).any (fun q => decide (id = q.id)) := by
  unfold mapTo
  cases (l.take k).any (fun q => decide (id = q.id)) <;> rfl
theorem enters_closed1 : Enters Tryz.prog 46 := enters_of Tryz.func46 (by kernel_rfl) rfl
theorem closed1 {W0 : World} {B m : Nat} {f : Nat → Option Bool} (hB : Box W0 B 86 (.map (some m))) (hm : MpIs encN encB W0 m f) (s : Nat) : Tells 46 #[.pointer (some ⟨B, 0, none⟩)] W0 (.int .u32 s) (!((f s).getD false)) := by
  intro W hf
  have c1 := (hB.fr hf (fun e => e)).cell
  have hm2 := Lib.hid (hm.fr hf (fun e => e))
  clear hB hm hf
  show Calls Tryz.prog 46 #[.int .u32 s, .pointer (some ⟨B, 0, none⟩)] W _
  go_enter Tryz.func46, Tryz.ntmps46
  go_wp2_with (at_lookup; refine mpLook1 rfl _ _ _ rfl _ _ keyN encB_inj Tryz.underlying86 false (zeroB _) m f rfl hm2.out s rfl (.bool ((f s).getD false)) rfl ?_)
  go_ret
  exact ⟨rfl, Fr.refl _ _⟩
set_option maxHeartbeats 4000000 in
set_option maxRecDepth 100000 in
theorem closed_any {w : World} {A : Option Addr} {c : Nat} {l : List Pt} (h : SlIs rPt w (.slice A l.length c) l) : Calls Tryz.prog 18 #[.slice A l.length c] w fun e w' => e = .returned (.bool (closedB l)) ∧ Fr No w w' := by
  have H := Lib.hid h
  obtain ⟨_, _, _, _, hb⟩ := h.form
  clear h
  have hmm := @run_makeMap Tryz.prog
  go_enter Tryz.func18, Tryz.ntmps18
  go_wp2
  refine namedN (fun W1 hW1 => ?_)
  have hf1 : Fr No w W1 := by rw [hW1]; exact (Fr.alloc _ _ _).trans (Fr.alloc _ _ _)
  have hM : MpIs encN encB W1 w.heap.size (fun _ => none) := by rw [hW1]; exact (MpIs.made w).fr (Fr.alloc No _ _) (fun e => e)
  have hB : Box W1 (w.heap.size + 1) 86 (.map (some w.heap.size)) := by
    rw [hW1]
    have := Box.new (w.alloc (.map #[] 0)) 86 (.map (some w.heap.size))
    rwa [World.size_alloc] at this
  have HM := Lib.hid hM
  have HB := Lib.hid hB
  have HF1 := Lib.hid hf1
  clear hW1 hM hB hf1
  go_loopw [11] (fun i wr => ∃ k : Nat, i = .int .i64 k ∧ k ≤ l.length ∧ Hid (MpIs encN encB wr w.heap.size (mapTo l k)) ∧ Hid (Box wr (w.heap.size + 1) 86 (.map (some w.heap.size))) ∧ Hid (Fr No w wr)) (fun i _ => l.length - (intOf i).toNat)
  case atStart => exact ⟨0, rfl, Nat.zero_le _, Lib.hid (by rw [mapTo_zero]; exact HM.out), HB, HF1⟩
  case round =>
    clear HM HB HF1
    obtain ⟨k, rfl, hk, hM, hB, hf⟩ := hrel
    by_cases hlt : k < l.length
    · obtain ⟨b, o, x, Ad, cd, Am, cm, Ar, cr, Ah, ch, rfl, hx, k0, k1, k2, k3, k4, hp⟩ := at_pt (H.out.fr hf.out) k hlt
      have HX := Lib.hid hx
      have HP := Lib.hid hp
      have cB := (hB.out.old (.cells #[.int .u32 x.id, .slice Ad x.deps.length cd, .slice Am x.makes.length cm, .slice Ar x.drops.length cr, .slice Ah x.hunks.length ch] 52)).cell
      clear hx hp
      go_wp2_with (at_mapUpdate; refine mpStore rfl _ _ _ _ rfl _ _ keyN encB_inj Tryz.underlying86 w.heap.size _ rfl (hM.out.fr (Fr.alloc No _ _) (fun e => e)) x.id rfl true rfl ?_; intro w2 hm2 hf2; clear k0 k1 k2 k3 k4 cB)
      go_roundw
      case rel =>
        have hb2 : Box w2 (w.heap.size + 1) 86 (.map (some w.heap.size)) := (hB.out.old _).fr hf2 (fun e => by have e : w.heap.size + 1 = w.heap.size := e; omega)
        have hf3 := (hf.out.trans (Fr.alloc No _ _)).comp hf2 (T := No) (fun _ _ e => e) (fun i hi e => by have e : i = w.heap.size := e; omega)
        exact ⟨k + 1, by go_num, by omega, Lib.hid (hm2.congr (mapTo_succ HX.out)), Lib.hid hb2, Lib.hid hf3⟩
      case measure => simp [intOf]; omega
    · have hkl : l.length ≤ k := by omega
      go_wp2
      clear hk hlt
      obtain ⟨W2, hW2⟩ : ∃ W2 : World, W2 = wr := ⟨_, rfl⟩
      rw [← hW2] at hf hM hB ⊢
      clear hW2
      go_loopw [21] (fun i wq => ∃ j : Nat, i = .int .i64 j ∧ j ≤ l.length ∧ Hid ((l.take j).all (fun p => p.deps.all fun d => l.any fun q => decide (d = q.id)) = true) ∧ Hid (Fr No W2 wq)) (fun i _ => l.length - (intOf i).toNat)
      case atStart => exact ⟨0, rfl, Nat.zero_le _, Lib.hid (by simp), Lib.hid (Fr.refl _ _)⟩
      case round =>
        obtain ⟨j, rfl, hj, hall, hf2⟩ := hrel
        by_cases hlt : j < l.length
        · obtain ⟨b, o, x, Ad, cd, Am, cm, Ar, cr, Ah, ch, rfl, hx, k0, k1, k2, k3, k4, hp⟩ := at_pt (H.out.fr (hf.out.trans hf2.out)) j hlt
          have HX := Lib.hid hx
          have hp2 := hp.deps.fr (Fr.alloc No wr (.cells #[.int .u32 x.id, .slice Ad x.deps.length cd, .slice Am x.makes.length cm, .slice Ar x.drops.length cr, .slice Ah x.hunks.length ch] 52))
          have hB2 := (hB.out.fr hf2.out (fun e => e)).old (.cells #[.int .u32 x.id, .slice Ad x.deps.length cd, .slice Am x.makes.length cm, .slice Ar x.drops.length cr, .slice Ah x.hunks.length ch] 52)
          have hM2 := (hM.out.fr hf2.out (fun e => e)).fr (Fr.alloc No wr (.cells #[.int .u32 x.id, .slice Ad x.deps.length cd, .slice Am x.makes.length cm, .slice Ar x.drops.length cr, .slice Ah x.hunks.length ch] 52)) (fun e => e)
          have hcon := hasfU32 hp2 enters_closed1 (fun s => !(l.any fun q => decide (s = q.id))) (fun s => by
            have := closed1 hB2 hM2 s
            rwa [mapTo_getD, List.take_of_length_le hkl] at this)
          have HC := Lib.hid hcon
          clear hx hp hp2 hB2 hM2 hcon
          cases hv : x.deps.any (fun s => !(l.any fun q => decide (s = q.id))) with
          | true =>
            have HV := Lib.hid hv
            clear hv
            go_wp2_with (go_at_call 45; refine HC.out.mono ?_; rw [HV.out]; rintro e w2 ⟨rfl, hf3⟩)
            go_ret
            refine ⟨?_, (hf.out.trans hf2.out).trans ((Fr.alloc _ _ _).trans hf3)⟩
            rw [closedB, all_false (f := fun p : Pt => p.deps.all fun d => l.any fun q => decide (d = q.id)) HX.out (by
              have := HV.out
              rw [← Bool.not_eq_true, List.all_eq_true]
              rw [List.any_eq_true] at this
              obtain ⟨s, hs1, hs2⟩ := this
              intro h2
              rw [h2 s hs1] at hs2
              cases hs2)]
            rfl
          | false =>
            have HV := Lib.hid hv
            clear hv
            go_wp2_with (go_at_call 45; refine HC.out.mono ?_; rw [HV.out]; rintro e w2 ⟨rfl, hf3⟩)
            go_roundw
            case rel =>
              refine ⟨j + 1, by go_num, by omega, Lib.hid (all_take_succ hall.out HX.out ?_), Lib.hid (hf2.out.trans ((Fr.alloc _ _ _).trans hf3))⟩
              have := HV.out
              rw [List.all_eq_true]
              rw [List.any_eq_false] at this
              intro s hs
              simpa using this s hs
            case measure => simp [intOf]; omega
        · have hall2 := all_take hall.out (by omega)
          have HL := Lib.hid hall2
          clear hall2
          go_wp2
          go_ret
          exact ⟨by rw [closedB, HL.out]; rfl, hf.out.trans hf2.out⟩
end Go.Proofs.YthnfkjcndidoaaaGreatDoor
