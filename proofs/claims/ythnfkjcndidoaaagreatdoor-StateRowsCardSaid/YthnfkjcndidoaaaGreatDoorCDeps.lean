import Derived.Test.YthnfkjcndidoaaaGreatDoorCNeed
import Derived.Test.YthnfkjcndidoaaaGreatDoorCHunk
import Derived.WalkMore
set_option linter.unusedVariables false
set_option linter.unusedSimpArgs false
namespace Go.Proofs.YthnfkjcndidoaaaGreatDoor
open Go.RowKit Go.Shelf

/-! ### patch.deps, patch.Is -/
def depsB (x : Pt) : Bool := decide (x.deps.length ≤ 60) && (Rises natLt x.deps && (!(x.deps.any fun y => decide (0 = y)) && (!(x.deps.any fun y => decide (x.id = y)) && !((ptNeeds x).any fun s => decide (s ≠ x.id) && !(x.deps.any fun y => decide (s = y))))))
theorem ownU_sl {w : World} {base : Nat} {v : Value} {xs : List Nat} (h : OwnU w base v xs) : ∃ A c, v = .slice A xs.length c ∧ SlIs rU32 w v xs := by
  rcases h.cases with ⟨rfl, rfl⟩ | ⟨g, cap, cur, rfl, hb, hg, hh, h1, h2, h3, h4⟩
  · exact ⟨none, 0, rfl, slNil _ _⟩
  · refine ⟨_, _, rfl, ⟨_, _, rfl, h1, by unfold maxLen at h2; omega, fun _ => ⟨g, 0, rfl, fun j x hx => ⟨[.int .u32 x], rfl, fun i u hu => ?_⟩⟩⟩⟩
    obtain ⟨rfl, rfl⟩ : i = 0 ∧ u = .int .u32 x := by
      cases i with
      | zero => simpa [eq_comm] using hu
      | succ i => simp at hu
    have hj : j < xs.length := (List.getElem?_eq_some_iff.1 hx).1
    rw [cell_of_heap hh]
    have h5 : (cur.toList.take xs.length)[j]? = (xs.map encU)[j]? := by rw [h4]
    rw [List.getElem?_take_of_lt hj, Array.getElem?_toList, List.getElem?_map, hx] at h5
    simpa [rU32, Rp.one] using h5
theorem needs_same {x : Pt} {ys : List Nat} (h : ∀ y, y ∈ ys ↔ y ∈ ptNeeds x ∧ y ≠ x.id) (p : Nat → Bool) : ys.any p = (ptNeeds x).any fun s => decide (s ≠ x.id) && p s := by
  rw [Bool.eq_iff_iff, List.any_eq_true, List.any_eq_true]
  constructor
  · rintro ⟨y, hy, hp⟩
    exact ⟨y, ((h y).1 hy).1, by simp [((h y).1 hy).2, hp]⟩
  · rintro ⟨y, hy, hp⟩
    simp only [Bool.and_eq_true, decide_eq_true_eq] at hp
    exact ⟨y, (h y).2 ⟨hy, hp.1⟩, hp.2⟩
section
variable {w : World} {x : Pt} {Ad : Option Addr} {cd : Nat} {Am : Option Addr} {cm : Nat} {Ar : Option Addr} {cr : Nat} {Ah : Option Addr} {ch : Nat}
set_option maxHeartbeats 4000000 in
set_option maxRecDepth 100000 in
theorem deps_any (h : PtV w x Ad cd Am cm Ar cr Ah ch) (hN : (ptNeeds x).length ≤ 1000000) :
    Calls Tryz.prog 85 #[.agg #[.int .u32 x.id, .slice Ad x.deps.length cd, .slice Am x.makes.length cm, .slice Ar x.drops.length cr, .slice Ah x.hunks.length ch]] w fun e w' => e = .returned (.bool (depsB x)) ∧ Fr No w w' := by
  have F1 : Fr No w (w.alloc (.cells #[.int .u32 x.id, .slice Ad x.deps.length cd, .slice Am x.makes.length cm, .slice Ar x.drops.length cr, .slice Ah x.hunks.length ch] 52)) := Fr.alloc _ _ _
  have B1 : PtBox (w.alloc (.cells #[.int .u32 x.id, .slice Ad x.deps.length cd, .slice Am x.makes.length cm, .slice Ar x.drops.length cr, .slice Ah x.hunks.length ch] 52)) w.heap.size x Ad cd Am cm Ar cr Ah ch := heap_last _ _
  have H1 := h.fr F1
  obtain ⟨_, _, _, _, hb⟩ := h.deps.form
  have H := Lib.hid (And.intro F1 (And.intro B1 H1))
  have HN := Lib.hid hN
  clear F1 B1 H1 h hN
  by_cases g1 : x.deps.length ≤ 60
  · cases g2 : Rises natLt x.deps with
    | true =>
      cases g3 : (x.deps.any fun y => decide (0 = y)) with
      | false =>
        cases g4 : (x.deps.any fun y => decide (x.id = y)) with
        | false =>
          have HG := Lib.hid (And.intro g2 (And.intro g3 g4))
          clear g2 g3 g4
          go_enter Tryz.func85, Tryz.ntmps85
          go_wp2_with (first
            | (go_at_call 120; refine (risesU32 H.out.2.2.deps).mono ?_; rw [HG.out.1]; rintro e w1 ⟨rfl, hf1⟩; have c1 := cell_of_heap (H.out.2.1.fr hf1) 1)
            | (go_at_call 121; refine (hasU32 (H.out.2.2.deps.fr hf1) 0).mono ?_; rw [HG.out.2.1]; rintro e w2 ⟨rfl, hf2⟩; have c2 := cell_of_heap (H.out.2.1.fr (hf1.trans hf2)) 1; have c3 := cell_of_heap (H.out.2.1.fr (hf1.trans hf2)) 0)
            | (go_at_call 121; refine (hasU32 (H.out.2.2.deps.fr (hf1.trans hf2)) x.id).mono ?_; rw [HG.out.2.2]; rintro e w3 ⟨rfl, hf3⟩; have c0 := cell_of_heap (H.out.2.1.fr ((hf1.trans hf2).trans hf3)) 0; have c1' := cell_of_heap (H.out.2.1.fr ((hf1.trans hf2).trans hf3)) 1; have c2' := cell_of_heap (H.out.2.1.fr ((hf1.trans hf2).trans hf3)) 2; have c3' := cell_of_heap (H.out.2.1.fr ((hf1.trans hf2).trans hf3)) 3; have c4' := cell_of_heap (H.out.2.1.fr ((hf1.trans hf2).trans hf3)) 4)
            | (go_at_call 122; refine stopAt ?_))
          have hff := (hf1.trans hf2).trans hf3
          refine Hid.go ((needs_any (H.out.2.2.fr hff) HN.out).mono ?_)
          rintro e w4 ⟨v, ys, rfl, ho, hs, hm, hf4⟩
          obtain ⟨A', c', rfl, hsl⟩ := ownU_sl ho
          have hcon := hasfU32 hsl enters_deps1 (fun s => !(x.deps.any fun y => decide (s = y))) (fun s => deps1 (H.out.2.1.fr (hff.trans hf4)) (H.out.2.2.fr (hff.trans hf4)) s)
          rw [needs_same hm] at hcon
          have HC := Lib.hid hcon
          have HF := Lib.hid (hff.trans hf4)
          clear hcon hsl ho hs hm hf4 hff hf1 hf2 hf3
          go_wp2_with (go_at_call 45; refine HC.out.mono ?_; rintro e w5 ⟨rfl, hf5⟩)
          go_ret
          refine ⟨?_, (H.out.1.trans HF.out).trans hf5⟩
          simp [depsB, g1, HG.out.1, HG.out.2.1, HG.out.2.2]
        | true =>
          have HG := Lib.hid (And.intro g2 (And.intro g3 g4))
          clear g2 g3 g4
          go_enter Tryz.func85, Tryz.ntmps85
          go_wp2_with (first
            | (go_at_call 120; refine (risesU32 H.out.2.2.deps).mono ?_; rw [HG.out.1]; rintro e w1 ⟨rfl, hf1⟩; have c1 := cell_of_heap (H.out.2.1.fr hf1) 1)
            | (go_at_call 121; refine (hasU32 (H.out.2.2.deps.fr hf1) 0).mono ?_; rw [HG.out.2.1]; rintro e w2 ⟨rfl, hf2⟩; have c2 := cell_of_heap (H.out.2.1.fr (hf1.trans hf2)) 1; have c3 := cell_of_heap (H.out.2.1.fr (hf1.trans hf2)) 0)
            | (go_at_call 121; refine (hasU32 (H.out.2.2.deps.fr (hf1.trans hf2)) x.id).mono ?_; rw [HG.out.2.2]; rintro e w3 ⟨rfl, hf3⟩))
          go_ret
          refine ⟨?_, ((H.out.1.trans hf1).trans hf2).trans hf3⟩
          rw [depsB, HG.out.2.2]
          simp
      | true =>
        have HG := Lib.hid (And.intro g2 g3)
        clear g2 g3
        go_enter Tryz.func85, Tryz.ntmps85
        go_wp2_with (first
          | (go_at_call 120; refine (risesU32 H.out.2.2.deps).mono ?_; rw [HG.out.1]; rintro e w1 ⟨rfl, hf1⟩; have c1 := cell_of_heap (H.out.2.1.fr hf1) 1)
          | (go_at_call 121; refine (hasU32 (H.out.2.2.deps.fr hf1) 0).mono ?_; rw [HG.out.2]; rintro e w2 ⟨rfl, hf2⟩))
        go_ret
        refine ⟨?_, (H.out.1.trans hf1).trans hf2⟩
        rw [depsB, HG.out.2]
        simp
    | false =>
      have HG := Lib.hid g2
      clear g2
      go_enter Tryz.func85, Tryz.ntmps85
      go_wp2_with (go_at_call 120; refine (risesU32 H.out.2.2.deps).mono ?_; rw [HG.out]; rintro e w1 ⟨rfl, hf1⟩)
      go_ret
      refine ⟨?_, H.out.1.trans hf1⟩
      rw [depsB, HG.out]
      simp
  · go_enter Tryz.func85, Tryz.ntmps85
    go_wp2
    go_ret
    exact ⟨by simp [depsB, g1], H.out.1⟩
end
end Go.Proofs.YthnfkjcndidoaaaGreatDoor
