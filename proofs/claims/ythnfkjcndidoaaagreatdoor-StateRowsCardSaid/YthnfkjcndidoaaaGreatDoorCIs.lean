import Derived.Test.YthnfkjcndidoaaaGreatDoorCDeps
set_option linter.unusedVariables false
set_option linter.unusedSimpArgs false
namespace Go.Proofs.YthnfkjcndidoaaaGreatDoor
open Go.RowKit Go.Shelf
section
variable {w : World} {x : Pt} {Ad : Option Addr} {cd : Nat} {Am : Option Addr} {cm : Nat} {Ar : Option Addr} {cr : Nat} {Ah : Option Addr} {ch : Nat}
/-- Do hunks follow each other? -/
def hunksB (id : Nat) : Nat → ByteArray → List Hk → Bool
  | _, _, [] => true
  | f, last, h :: r => isPathB h.path && (strLt last h.path && (isHunkB id f h && hunksB id (f + h.adds.length) h.path r))
def isB (x : Pt) : Bool := decide (x.id ≠ 0) && (decide (x.hunks.length ≤ 6) && (pathsB x.makes && (pathsB x.drops && (depsB x && (!(x.makes.any fun s => x.drops.any fun y => decide (s = y)) && hunksB x.id 0 ⟨#[]⟩ x.hunks)))))
/-- The path ahead of the j-th hunk. -/
def lastOf (hs : List Hk) (j : Nat) : ByteArray := match j with | 0 => ⟨#[]⟩ | j + 1 => (hs[j]?.map (·.path)).getD ⟨#[]⟩
theorem bl_asymm : ∀ a b : List UInt8, Op.bytesLess a b = true → Op.bytesLess b a = false
  | [], [], h => by simp [Op.bytesLess] at h
  | [], y :: b, h => by simp [Op.bytesLess]
  | x :: a, [], h => by simp [Op.bytesLess] at h
  | x :: a, y :: b, h => by
    simp only [Op.bytesLess, Bool.or_eq_true, decide_eq_true_eq, Bool.and_eq_true, beq_iff_eq] at h
    simp only [Op.bytesLess, Bool.or_eq_false_iff, Bool.and_eq_false_iff, decide_eq_false_iff_not, beq_eq_false_iff_ne]
    rcases h with h | ⟨rfl, h⟩
    · exact ⟨UInt8.not_lt.2 (UInt8.le_of_lt h), .inl (fun e => by subst e; exact UInt8.lt_irrefl _ h)⟩
    · exact ⟨UInt8.lt_irrefl _, .inr (bl_asymm a b h)⟩
theorem str_gt (y l : ByteArray) : (strLt l y = true ∧ Op.bytesLess y.toList l.toList = false ∧ (y.toList == l.toList) = false) ∨ (strLt l y = false ∧ Op.bytesLess y.toList l.toList = true) ∨ (strLt l y = false ∧ Op.bytesLess y.toList l.toList = false ∧ (y.toList == l.toList) = true) := by
  cases h : strLt l y with
  | true =>
    refine .inl ⟨rfl, bl_asymm _ _ h, ?_⟩
    rw [str_eq]
    simp
    rintro rfl
    unfold strLt at h
    rw [bl_irrefl] at h
    cases h
  | false =>
    by_cases e : l.toList = y.toList
    · exact .inr (.inr ⟨rfl, by rw [e]; exact bl_irrefl _, by simp [e]⟩)
    · exact .inr (.inl ⟨rfl, bl_tri _ _ h e⟩)
theorem isHunk_len {id f : Nat} {y : Hk} (h : isHunkB id f y = true) : y.adds.length ≤ 40 := by
  simp only [isHunkB, Bool.and_eq_true, decide_eq_true_eq] at h
  exact h.1
theorem drop_cons {α : Type} {l : List α} {j : Nat} {y : α} (h : l[j]? = some y) : l.drop j = y :: l.drop (j + 1) := by
  obtain ⟨hj, rfl⟩ := List.getElem?_eq_some_iff.1 h
  rw [List.drop_eq_getElem_cons hj]
def lenTo (hs : List Hk) (j : Nat) : Nat := ((hs.take j).map fun h => h.adds.length).sum
theorem lenTo_snoc {hs : List Hk} {j : Nat} {y : Hk} (hy : hs[j]? = some y) : lenTo hs (j + 1) = lenTo hs j + y.adds.length := by
  unfold lenTo
  rw [List.take_add_one, hy]; simp
theorem lastOf_snoc {hs : List Hk} {j : Nat} {y : Hk} (hy : hs[j]? = some y) : lastOf hs (j + 1) = y.path := by simp [lastOf, hy]
theorem fr_pt {W W' : World} {b : Nat} {x : Pt} {Ad : Option Addr} {cd : Nat} {Am : Option Addr} {cm : Nat} {Ar : Option Addr} {cr : Nat} {Ah : Option Addr} {ch : Nat} (hb : PtBox W b x Ad cd Am cm Ar cr Ah ch) (hf : Fr No W W') : W'.cell? ⟨b, 0, none⟩ = some (.int .u32 x.id) ∧ W'.cell? ⟨b, 1, none⟩ = some (.slice Ad x.deps.length cd) ∧ W'.cell? ⟨b, 2, none⟩ = some (.slice Am x.makes.length cm) ∧ W'.cell? ⟨b, 3, none⟩ = some (.slice Ar x.drops.length cr) ∧ W'.cell? ⟨b, 4, none⟩ = some (.slice Ah x.hunks.length ch) :=
  ⟨cell_of_heap (hb.fr hf) 0, cell_of_heap (hb.fr hf) 1, cell_of_heap (hb.fr hf) 2, cell_of_heap (hb.fr hf) 3, cell_of_heap (hb.fr hf) 4⟩
set_option maxHeartbeats 4000000 in
set_option maxRecDepth 100000 in
theorem is_any (h : PtV w x Ad cd Am cm Ar cr Ah ch) (hN : (ptNeeds x).length ≤ 1000000) :
    Calls Tryz.prog 57 #[.agg #[.int .u32 x.id, .slice Ad x.deps.length cd, .slice Am x.makes.length cm, .slice Ar x.drops.length cr, .slice Ah x.hunks.length ch]] w fun e w' => e = .returned (.bool (isB x)) ∧ Fr No w w' := by
  have F1 : Fr No w (w.alloc (.cells #[.int .u32 x.id, .slice Ad x.deps.length cd, .slice Am x.makes.length cm, .slice Ar x.drops.length cr, .slice Ah x.hunks.length ch] 52)) := Fr.alloc _ _ _
  have B1 : PtBox (w.alloc (.cells #[.int .u32 x.id, .slice Ad x.deps.length cd, .slice Am x.makes.length cm, .slice Ar x.drops.length cr, .slice Ah x.hunks.length ch] 52)) w.heap.size x Ad cd Am cm Ar cr Ah ch := heap_last _ _
  have H1 := h.fr F1
  obtain ⟨_, _, _, _, hb⟩ := h.hunks.form
  obtain ⟨_, _, _, _, hb2⟩ := h.makes.form
  obtain ⟨_, _, _, _, hb3⟩ := h.drops.form
  have H := Lib.hid (And.intro F1 (And.intro B1 H1))
  have HN := Lib.hid hN
  clear F1 B1 H1 h hN
  by_cases g0 : x.id = 0
  · go_enter Tryz.func57, Tryz.ntmps57
    have ht : ((x.id : Int) == 0) = true := by simp [g0]
    have HG := Lib.hid g0
    clear g0
    go_wp2
    go_step3
    go_wp2
    rw [Exit.noGoto_ret]
    go_ret
    exact ⟨by simp [isB, HG.out], H.out.1⟩
  · have ht : ((x.id : Int) == 0) = false := by simp; omega
    have HI := Lib.hid g0
    have NA := Lib.hid (paths_any H.out.2.2.makes)
    clear g0
    by_cases g1 : x.hunks.length ≤ 6
    · have h6 : decide ((6 : Int) < (x.hunks.length : Int)) = false := by simp; omega
      cases g2 : pathsB x.makes with
      | false =>
        have HG := Lib.hid g2
        clear g2
        go_enter Tryz.func57, Tryz.ntmps57
        go_wp2
        go_step3
        go_wp2_with (go_at_call 84; with_reducible refine NA.out.mono ?_; rw [HG.out]; rintro e w1 ⟨rfl, hf1⟩)
        rw [Exit.noGoto_ret]
        go_ret
        exact ⟨by simp [isB, HG.out], H.out.1.trans hf1⟩
      | true =>
        cases g3 : pathsB x.drops with
        | false =>
          have HG := Lib.hid (And.intro g2 g3)
          clear g2 g3
          go_enter Tryz.func57, Tryz.ntmps57
          go_wp2
          go_step3
          go_wp2_with (first | (go_at_call 84; with_reducible refine NA.out.mono ?_; rw [HG.out.1]; rintro e w1 ⟨rfl, hf1⟩; have c1 := (fr_pt H.out.2.1 hf1).2.2.2.1) | (go_at_call 84; refine (paths_any (H.out.2.2.drops.fr hf1)).mono ?_; rw [HG.out.2]; rintro e w2 ⟨rfl, hf2⟩))
          rw [Exit.noGoto_ret]
          go_ret
          exact ⟨by simp [isB, HG.out.2], (H.out.1.trans hf1).trans hf2⟩
        | true =>
          cases g4 : depsB x with
          | false =>
            have HG := Lib.hid (And.intro g2 (And.intro g3 g4))
            clear g2 g3 g4
            go_enter Tryz.func57, Tryz.ntmps57
            go_wp2
            go_step3
            go_wp2_with (first | (go_at_call 84; with_reducible refine NA.out.mono ?_; rw [HG.out.1]; rintro e w1 ⟨rfl, hf1⟩; have c1 := (fr_pt H.out.2.1 hf1).2.2.2.1) | (go_at_call 84; refine (paths_any (H.out.2.2.drops.fr hf1)).mono ?_; rw [HG.out.2.1]; rintro e w2 ⟨rfl, hf2⟩; obtain ⟨e0, e1, e2, e3, e4⟩ := fr_pt H.out.2.1 (hf1.trans hf2)) | (go_at_call 85; refine (deps_any (H.out.2.2.fr (hf1.trans hf2)) HN.out).mono ?_; rw [HG.out.2.2]; rintro e w3 ⟨rfl, hf3⟩))
            rw [Exit.noGoto_ret]
            go_ret
            exact ⟨by simp [isB, HG.out.2.2], ((H.out.1.trans hf1).trans hf2).trans hf3⟩
          | true =>
            cases g5 : (x.makes.any fun s => x.drops.any fun y => decide (s = y)) with
            | true =>
              have HG := Lib.hid (And.intro g2 (And.intro g3 (And.intro g4 g5)))
              clear g2 g3 g4 g5
              go_enter Tryz.func57, Tryz.ntmps57
              go_wp2
              go_step3
              go_wp2_with (first | (go_at_call 84; with_reducible refine NA.out.mono ?_; rw [HG.out.1]; rintro e w1 ⟨rfl, hf1⟩; have c1 := (fr_pt H.out.2.1 hf1).2.2.2.1) | (go_at_call 84; refine (paths_any (H.out.2.2.drops.fr hf1)).mono ?_; rw [HG.out.2.1]; rintro e w2 ⟨rfl, hf2⟩; obtain ⟨e0, e1, e2, e3, e4⟩ := fr_pt H.out.2.1 (hf1.trans hf2)) | (go_at_call 85; refine (deps_any (H.out.2.2.fr (hf1.trans hf2)) HN.out).mono ?_; rw [HG.out.2.2.1]; rintro e w3 ⟨rfl, hf3⟩; clear e0 e1 e2 e3 e4; have c3 := (fr_pt H.out.2.1 ((hf1.trans hf2).trans hf3)).2.2.1) | (go_at_call 86; refine (hasfStr (H.out.2.2.makes.fr ((hf1.trans hf2).trans hf3)) enters_is1 (fun s => x.drops.any fun y => decide (s = y)) (fun s => is1 (H.out.2.1.fr ((hf1.trans hf2).trans hf3)) (H.out.2.2.fr ((hf1.trans hf2).trans hf3)) s)).mono ?_; rw [HG.out.2.2.2]; rintro e w4 ⟨rfl, hf4⟩; clear c3))
              rw [Exit.noGoto_ret]
              go_ret
              refine ⟨?_, (((H.out.1.trans hf1).trans hf2).trans hf3).trans hf4⟩
              rw [isB, HG.out.2.2.2]
              simp
            | false =>
              have HG := Lib.hid (And.intro g2 (And.intro g3 (And.intro g4 g5)))
              clear g2 g3 g4 g5
              go_enter Tryz.func57, Tryz.ntmps57
              go_wp2
              go_step3
              go_wp2_with (first | (go_at_call 84; with_reducible refine NA.out.mono ?_; rw [HG.out.1]; rintro e w1 ⟨rfl, hf1⟩; have c1 := (fr_pt H.out.2.1 hf1).2.2.2.1) | (go_at_call 84; refine (paths_any (H.out.2.2.drops.fr hf1)).mono ?_; rw [HG.out.2.1]; rintro e w2 ⟨rfl, hf2⟩; obtain ⟨e0, e1, e2, e3, e4⟩ := fr_pt H.out.2.1 (hf1.trans hf2)) | (go_at_call 85; refine (deps_any (H.out.2.2.fr (hf1.trans hf2)) HN.out).mono ?_; rw [HG.out.2.2.1]; rintro e w3 ⟨rfl, hf3⟩; clear e0 e1 e2 e3 e4; have c3 := (fr_pt H.out.2.1 ((hf1.trans hf2).trans hf3)).2.2.1) | (go_at_call 86; refine (hasfStr (H.out.2.2.makes.fr ((hf1.trans hf2).trans hf3)) enters_is1 (fun s => x.drops.any fun y => decide (s = y)) (fun s => is1 (H.out.2.1.fr ((hf1.trans hf2).trans hf3)) (H.out.2.2.fr ((hf1.trans hf2).trans hf3)) s)).mono ?_; rw [HG.out.2.2.2]; rintro e w4 ⟨rfl, hf4⟩; clear c3))
              have HF := Lib.hid (((hf1.trans hf2).trans hf3).trans hf4)
              have c4 := (fr_pt H.out.2.1 HF.out).2.2.2.2
              clear hf1 hf2 hf3 hf4
              go_step3
              go_wp2
              clear c4
              go_loopw [3, 4, 40] (fun n s i wr => ∃ j : Nat, n = .int .i64 (lenTo x.hunks j : Nat) ∧ s = .string (lastOf x.hunks j) ∧ i = .int .i64 j ∧ j ≤ x.hunks.length ∧ Hid (hunksB x.id 0 ⟨#[]⟩ x.hunks = hunksB x.id (lenTo x.hunks j) (lastOf x.hunks j) (x.hunks.drop j) ∧ lenTo x.hunks j ≤ 40 * j) ∧ Hid (Fr No w4 wr)) (fun _ _ i _ => x.hunks.length - (intOf i).toNat)
              case atStart => exact ⟨0, by simp [lenTo], rfl, rfl, Nat.zero_le _, Lib.hid ⟨by simp [lenTo, lastOf], by simp [lenTo]⟩, Lib.hid (Fr.refl _ _)⟩
              case round =>
                obtain ⟨j, rfl, rfl, rfl, hj, hS, hf⟩ := hrel
                by_cases hlt : j < x.hunks.length
                · obtain ⟨b', o', y, Aa, ca, Ae, ce, Ak, ck, rfl, hz, k0, k1, k2, k3, hya, hye, hyk⟩ := at_hk (H.out.2.2.hunks.fr (HF.out.trans hf.out)) j hlt
                  obtain ⟨_, _, _, _, hba⟩ := hya.form
                  have hf5 : Fr No wr (wr.alloc (.cells #[.string y.path, .slice Aa y.adds.length ca, .slice Ae y.edges.length ce, .slice Ak y.kills.length ck] 57)) := Fr.alloc _ _ _
                  have c0 := (fr_pt H.out.2.1 ((HF.out.trans hf.out).trans hf5)).1
                  have hfn : lenTo x.hunks j ≤ 10000 := by have := hS.out.2; omega
                  have HY := Lib.hid (⟨hya.fr hf5, hye.fr hf5, hyk.fr hf5⟩ : HkV (wr.alloc (.cells #[.string y.path, .slice Aa y.adds.length ca, .slice Ae y.edges.length ce, .slice Ak y.kills.length ck] 57)) y Aa ca Ae ce Ak ck)
                  have HZ := Lib.hid hz
                  clear hz hya hye hyk hf5
                  generalize hm : lenTo x.hunks j = m at hfn hS ⊢
                  generalize hlo : lastOf x.hunks j = last at hS ⊢
                  have HM := Lib.hid (And.intro hm hlo)
                  clear hm hlo
                  cases p1 : isPathB y.path with
                  | false =>
                    have HP := Lib.hid p1
                    clear p1
                    go_wp2_with (go_at_call 89; refine (isPath_any _ y.path).mono ?_; rw [HP.out]; rintro e w' ⟨rfl, rfl⟩)
                    rw [Exit.noGoto_ret]
                    go_ret
                    refine ⟨?_, ((H.out.1.trans HF.out).trans hf.out).trans (Fr.alloc _ _ _)⟩
                    have h1 := hS.out.1
                    rw [drop_cons HZ.out, hunksB, HP.out, Bool.false_and] at h1
                    simp [isB, h1]
                  | true =>
                    rcases str_gt y.path last with ⟨p2, t1, t2⟩ | ⟨p2, t1⟩ | ⟨p2, t1, t2⟩
                    · cases p3 : isHunkB x.id m y with
                      | false =>
                        have HP := Lib.hid (And.intro p1 (And.intro p2 p3))
                        clear p1 p2 p3
                        go_wp2_with (first | (go_at_call 89; refine (isPath_any _ y.path).mono ?_; rw [HP.out.1]; rintro e w' ⟨rfl, rfl⟩) | (go_at_call 90; refine (isHunk_any HY.out hfn).mono ?_; rw [HP.out.2.2]; rintro e w6 ⟨rfl, hf6⟩))
                        rw [Exit.noGoto_ret]
                        go_ret
                        refine ⟨?_, (((H.out.1.trans HF.out).trans hf.out).trans (Fr.alloc _ _ _)).trans hf6⟩
                        have h1 := hS.out.1
                        rw [drop_cons HZ.out, hunksB, HP.out.1, HP.out.2.1, HP.out.2.2, Bool.false_and, Bool.and_false, Bool.and_false] at h1
                        simp [isB, h1]
                      | true =>
                        have HP := Lib.hid (And.intro p1 (And.intro p2 p3))
                        have h40 := isHunk_len p3
                        clear p1 p2 p3
                        go_wp2_with (first | (go_at_call 89; refine (isPath_any _ y.path).mono ?_; rw [HP.out.1]; rintro e w' ⟨rfl, rfl⟩) | (go_at_call 90; refine (isHunk_any HY.out hfn).mono ?_; rw [HP.out.2.2]; rintro e w6 ⟨rfl, hf6⟩))
                        have hbx := hf6.heap (fun e => e) (heap_last wr (.cells #[.string y.path, .slice Aa y.adds.length ca, .slice Ae y.edges.length ce, .slice Ak y.kills.length ck] 57))
                        have k0 := cell_of_heap hbx 0
                        have k1 := cell_of_heap hbx 1
                        have HF6 := Lib.hid (hf.out.trans ((Fr.alloc _ _ _).trans hf6))
                        clear hbx hf6 c0 t1 t2
                        have hm1 : m ≤ 10000 := hfn
                        go_quiet (fail)
                        go_wp2
                        go_roundw
                        case rel =>
                          have h1 := hS.out.1
                          rw [drop_cons HZ.out, hunksB, HP.out.1, HP.out.2.1, HP.out.2.2, Bool.true_and, Bool.true_and, Bool.true_and] at h1
                          refine ⟨j + 1, ?_, ?_, by go_num, by omega, Lib.hid ⟨?_, ?_⟩, Lib.hid (HF6.out.trans ⟨rfl, rfl, rfl, Nat.le_refl _, fun _ _ _ => rfl⟩)⟩
                          · rw [lenTo_snoc HZ.out, HM.out.1]; go_num
                          · rw [lastOf_snoc HZ.out]
                          · rw [h1, lenTo_snoc HZ.out, HM.out.1, lastOf_snoc HZ.out]
                          · rw [lenTo_snoc HZ.out, HM.out.1]; have := hS.out.2; omega
                        case measure => simp [intOf]; omega
                    · have HP := Lib.hid (And.intro p1 p2)
                      clear p1 p2
                      go_wp2_with (go_at_call 89; refine (isPath_any _ y.path).mono ?_; rw [HP.out.1]; rintro e w' ⟨rfl, rfl⟩)
                      rw [Exit.noGoto_ret]
                      go_ret
                      refine ⟨?_, ((H.out.1.trans HF.out).trans hf.out).trans (Fr.alloc _ _ _)⟩
                      have h1 := hS.out.1
                      rw [drop_cons HZ.out, hunksB, HP.out.1, HP.out.2, Bool.false_and, Bool.and_false] at h1
                      simp [isB, h1]
                    · have HP := Lib.hid (And.intro p1 p2)
                      clear p1 p2
                      go_wp2_with (go_at_call 89; refine (isPath_any _ y.path).mono ?_; rw [HP.out.1]; rintro e w' ⟨rfl, rfl⟩)
                      rw [Exit.noGoto_ret]
                      go_ret
                      refine ⟨?_, ((H.out.1.trans HF.out).trans hf.out).trans (Fr.alloc _ _ _)⟩
                      have h1 := hS.out.1
                      rw [drop_cons HZ.out, hunksB, HP.out.1, HP.out.2, Bool.false_and, Bool.and_false] at h1
                      simp [isB, h1]
                · go_wp2
                  rw [Exit.noGoto_ret]
                  go_ret
                  refine ⟨?_, (H.out.1.trans HF.out).trans hf.out⟩
                  have h1 := hS.out.1
                  rw [List.drop_of_length_le (by omega), hunksB] at h1
                  simp [isB, h1, HG.out.1, HG.out.2.1, HG.out.2.2.1, HI.out, g1]
                  have := HG.out.2.2.2
                  simpa using this
    · have h6 : decide ((6 : Int) < (x.hunks.length : Int)) = true := by simp; omega
      go_enter Tryz.func57, Tryz.ntmps57
      go_wp2
      go_step3
      go_wp2
      rw [Exit.noGoto_ret]
      go_ret
      exact ⟨by simp [isB, g1], H.out.1⟩
end
end Go.Proofs.YthnfkjcndidoaaaGreatDoor
