import Derived.Test.YthnfkjcndidoaaaGreatDoorCOfA
set_option linter.unusedVariables false
set_option linter.unusedSimpArgs false
namespace Go.Proofs.YthnfkjcndidoaaaGreatDoor
open Go.RowKit Go.Shelf

/-! ### state.Of -/
/-- A row of one's own reads as a list. -/
theorem ownRow_sl {α β : Type} (d : Rp α) (enc : β → List Value) (f : β → α) (hk : ∀ z, (enc z).length = d.sz) (h0 : 0 < d.sz) {w : World} {base : Nat} {e : TypeId} {v : Value} {zs : List β} (h : w.ownsRow base e d.sz v zs.length (zs.flatMap enc)) (hK : ∀ z ∈ zs, d.K w (f z) (enc z)) : SlIs d w v (zs.map f) := by
  rcases h.2 with ⟨rfl, h2⟩ | ⟨g, cap, cur, rfl, hb, hh, h1, h2, h3, h4⟩
  · have : zs = [] := List.length_eq_zero_iff.1 h2
    subst this
    exact slNil _ _
  · refine ⟨some ⟨g, 0, none⟩, cap, by rw [List.length_map], by rw [List.length_map]; exact h1, by rw [List.length_map]; unfold maxLen at h2; omega, fun _ => ⟨g, 0, rfl, fun j x hx => ?_⟩⟩
    rw [List.getElem?_map] at hx
    cases hz : zs[j]? with
    | none => rw [hz] at hx; cases hx
    | some z =>
      rw [hz] at hx
      have hx : f z = x := by simpa using hx
      subst hx
      have hj : j < zs.length := (List.getElem?_eq_some_iff.1 hz).1
      refine ⟨enc z, hK z (List.mem_of_getElem? hz), fun i u hu => ?_⟩
      have hi : i < d.sz := by rw [← hk z]; exact (List.getElem?_eq_some_iff.1 hu).1
      have hji : j * d.sz + i < zs.length * d.sz := by
        have : (j + 1) * d.sz ≤ zs.length * d.sz := Nat.mul_le_mul_right _ hj
        rw [Nat.add_mul, Nat.one_mul] at this
        omega
      rw [cell_of_heap hh, Nat.zero_add]
      have h5 : (cur.toList.take (zs.length * d.sz))[j * d.sz + i]? = (zs.flatMap enc)[j * d.sz + i]? := by rw [h4]
      rw [List.getElem?_take_of_lt hji, Array.getElem?_toList] at h5
      rw [h5, flat_get enc d.sz h0 hk, show (j * d.sz + i) / d.sz = j by rw [Nat.mul_comm, Nat.mul_add_div h0, Nat.div_eq_of_lt hi]; simp, show (j * d.sz + i) % d.sz = i by rw [Nat.mul_comm, Nat.mul_add_mod, Nat.mod_eq_of_lt hi], hz]
      simpa using hu
def prCell (p : Pr) : List Value := [.int .i64 p.a, .int .i64 p.b]
theorem pairCells_pr (l : List (Nat × Nat)) : pairCells l = (l.map prOf).flatMap prCell := by
  simp [pairCells, List.flatMap_map, prOf, prCell]
/-- A file's value: its lines, its pairs in rows of one's own. -/
def FileAt (W : World) (base : Nat) (t : Fl × Value × Value) : Prop := OwnLn W base t.2.1 t.1.lines ∧ W.ownsRow base 84 2 t.2.2 t.1.pairs.length (t.1.pairs.flatMap prCell)
def flCell (t : Fl × Value × Value) : List Value := [.string t.1.path, t.2.1, t.2.2]
theorem FileAt.fr {S : Nat → Prop} {W W' : World} {base : Nat} {t : Fl × Value × Value} (h : FileAt W base t) (hf : Fr S W W') (h1 : ∀ i, OwnO t.2.1 i → ¬ S i) (h2 : ∀ i, OwnO t.2.2 i → ¬ S i) : FileAt W' base t := ⟨own_fr h.1 hf h1, own_fr h.2 hf h2⟩
theorem own_apart {w : World} {b1 b2 : Nat} {e1 e2 : TypeId} {s1 s2 n1 n2 : Nat} {v1 v2 : Value} {x1 x2 : List Value} (h1 : w.ownsRow b1 e1 s1 v1 n1 x1) (h2 : w.ownsRow b2 e2 s2 v2 n2 x2) (he : e1 ≠ e2) : ∀ i, OwnO v1 i → ¬ OwnO v2 i := fun i hi hj => by
  obtain ⟨_, _, c1, k1⟩ := own_block h1 hi
  obtain ⟨_, _, c2, k2⟩ := own_block h2 hj
  have := k1.symm.trans k2
  simp at this
  exact he this.2
theorem FileAt.sl {W : World} {base : Nat} {t : Fl × Value × Value} (h : FileAt W base t) : rFl.K W t.1 (flCell t) := by
  refine ⟨t.2.1, t.2.2, rfl, ?_, ?_⟩
  · have := ownRow_sl rLn lnCell (f := id) (fun _ => rfl) (by decide) (zs := t.1.lines) h.1 (fun _ _ => rfl)
    simpa using this
  · have := ownRow_sl rPr prCell (f := id) (fun _ => rfl) (by decide) (zs := t.1.pairs) h.2 (fun _ _ => rfl)
    simpa using this
theorem info_file : (Tryz.prog.info? 32).map (fun i => (i.zero, i.size, i.bytes)) = some (some (.agg #[.string ⟨#[]⟩, .slice none 0 0, .slice none 0 0]), 3, 64) := by kernel_rfl
theorem flat_one : ∀ us : List ByteArray, us.flatMap (fun s : ByteArray => [Value.string s]) = us.map Value.string
  | [] => rfl
  | s :: r => by rw [List.flatMap_cons, flat_one r]; rfl
theorem strs_sl {w : World} {base : Nat} {v : Value} {us : List ByteArray} (h : w.ownsRow base 9 1 v us.length (us.map Value.string)) : SlIs rStr w v us := by
  have := ownRow_sl rStr (fun s : ByteArray => [Value.string s]) (f := id) (fun _ => rfl) (by decide) (zs := us) (w := w) (base := base) (e := 9) (v := v) (by
    rw [flat_one]; exact h) (fun _ _ => rfl)
  simpa using this
structure Small (l : List Pt) : Prop where
  needs : ∀ p ∈ l, (ptNeeds p).length ≤ 1000000
  lens : ∀ p ∈ l, lenSum p.hunks ≤ 1000000
  makes : (l.flatMap (·.makes)).length ≤ 1000000
set_option maxHeartbeats 4000000 in
set_option maxRecDepth 100000 in
theorem of_any {w : World} {A : Option Addr} {c : Nat} {l : List Pt} (h : SlIs rPt w (.slice A l.length c) l) (hT : Tab w) (hs : Small l) :
    Calls Tryz.prog 11 #[.slice A l.length c] w fun e w' => ∃ v, e = .returned (.tuple #[v, .int .i64 (ofE l : Nat)]) ∧ SlIs rFl w' v (ofF l) ∧ Fr No w w' := by
  have H := Lib.hid h
  have HT := Lib.hid hT
  have HS := Lib.hid hs
  clear h hT hs
  cases g1 : rightB l with
  | false =>
    have HG := Lib.hid g1
    clear g1
    go_enter Tryz.func11, Tryz.ntmps11
    go_wp2_with (go_at_call 33; refine (right_any H.out HS.out.needs).mono ?_; rw [HG.out]; rintro e w1 ⟨rfl, hf1⟩)
    go_ret2
    have he : ofE l = 10 := by simp [ofE, HG.out]
    exact ⟨_, by rw [he]; rfl, by rw [ofF, if_neg (by rw [he]; decide)]; exact slNil _ _, hf1⟩
  | true =>
    cases g2 : closedB l with
    | false =>
      have HG := Lib.hid (And.intro g1 g2)
      clear g1 g2
      go_enter Tryz.func11, Tryz.ntmps11
      go_wp2_with (first
          | (go_at_call 33; refine (right_any H.out HS.out.needs).mono ?_; rw [HG.out.1]; rintro e w1 ⟨rfl, hf1⟩)
          | (go_at_call 18; refine (closed_any (H.out.fr hf1)).mono ?_; rw [HG.out.2]; rintro e w2 ⟨rfl, hf2⟩))
      go_ret2
      have he : ofE l = 17 := by simp [ofE, HG.out.1, HG.out.2]
      exact ⟨_, by rw [he]; rfl, by rw [ofF, if_neg (by rw [he]; decide)]; exact slNil _ _, hf1.trans hf2⟩
    | true =>
      have hp := right_paths g1
      have HTr := Lib.hid (fun (W : World) (hW : SlIs rPt W (.slice A l.length c) l) => tracked_any hW HS.out.makes (fun p hp' s hs => Nat.le_trans ((hp p hp').1 s hs) (by omega)) (fun p hp' s hs => Nat.le_trans ((hp p hp').2 s hs) (by omega)) (trackedL l) (tracked_nodup l) (fun s => mem_tracked) (fun s hs => by
        rw [mem_tracked, Bool.and_eq_true] at hs
        obtain ⟨p, hp', h2⟩ := List.any_eq_true.1 hs.1
        obtain ⟨y, hy, h3⟩ := List.any_eq_true.1 h2
        have : s = y := by simpa using h3
        subst this
        exact Nat.le_trans ((hp p hp').1 s hy) (by unfold maxLen; omega)))
      clear hp
      cases g3 : fitsB l (trackedL l) with
      | false =>
        have HG := Lib.hid (And.intro g1 (And.intro g2 g3))
        clear g1 g2 g3
        go_enter Tryz.func11, Tryz.ntmps11
        go_wp2_with (first
          | (go_at_call 33; refine (right_any H.out HS.out.needs).mono ?_; rw [HG.out.1]; rintro e w1 ⟨rfl, hf1⟩)
          | (go_at_call 18; refine (closed_any (H.out.fr hf1)).mono ?_; rw [HG.out.2.1]; rintro e w2 ⟨rfl, hf2⟩)
          | (go_at_call 34; refine (HTr.out _ (H.out.fr (hf1.trans hf2))).mono ?_; rintro e w3 ⟨vt, us, rfl, ho3, hp3, hs3, hf3⟩; have hus := tracked_is hp3 hs3; subst hus; obtain ⟨At, ct, rfl, _⟩ := own_form ho3)
          | (go_at_call 35; refine (fits_any (H.out.fr ((hf1.trans hf2).trans hf3)) (strs_sl ho3) HS.out.lens).mono ?_; rw [HG.out.2.2]; rintro e w4 ⟨rfl, hf4⟩))
        go_ret2
        have he : ofE l = 11 := by simp [ofE, HG.out.1, HG.out.2.1, HG.out.2.2]
        exact ⟨_, by rw [he]; rfl, by rw [ofF, if_neg (by rw [he]; decide)]; exact slNil _ _, ((hf1.trans hf2).trans hf3).trans hf4⟩
      | true =>
        have HG := Lib.hid (And.intro g1 (And.intro g2 g3))
        clear g1 g2 g3
        obtain ⟨i0, hi, hz0, hz1, hz2⟩ := info_parts info_file
        have HI := Lib.hid (And.intro hi (And.intro hz0 (And.intro hz1 hz2)))
        clear hi hz0 hz1 hz2
        go_enter Tryz.func11, Tryz.ntmps11
        go_wp2_with (first
          | (go_at_call 33; refine (right_any H.out HS.out.needs).mono ?_; rw [HG.out.1]; rintro e w1 ⟨rfl, hf1⟩)
          | (go_at_call 18; refine (closed_any (H.out.fr hf1)).mono ?_; rw [HG.out.2.1]; rintro e w2 ⟨rfl, hf2⟩)
          | (go_at_call 34; refine (HTr.out _ (H.out.fr (hf1.trans hf2))).mono ?_; rintro e w3 ⟨vt, us, rfl, ho3, hp3, hs3, hf3⟩; have hus := tracked_is hp3 hs3; subst hus; obtain ⟨At, ct, rfl, _⟩ := own_form ho3)
          | (go_at_call 35; refine (fits_any (H.out.fr ((hf1.trans hf2).trans hf3)) (strs_sl ho3) HS.out.lens).mono ?_; rw [HG.out.2.2]; rintro e w4 ⟨rfl, hf4⟩))
        have hff := ((hf1.trans hf2).trans hf3).trans hf4
        have hsl : SlIs rStr w4 (.slice At (trackedL l).length ct) (trackedL l) := strs_sl (own_fr ho3 hf4 (fun _ _ e => e))
        obtain ⟨_, _, _, _, hbt⟩ := hsl.form
        have hfit := HG.out.2.2
        simp only [fitsB, Bool.and_eq_true, decide_eq_true_eq] at hfit
        have hnd := HG.out.1
        simp only [rightB, Bool.and_eq_true, decide_eq_true_eq] at hnd
        have HF := Lib.hid (And.intro hff (And.intro hsl (And.intro hfit hnd.1)))
        clear hf1 hf2 hf3 hf4 ho3 hp3 hs3 hsl hfit hnd hff
        go_loopw [5, 22] (fun v i wr => ∃ (v' : Value) (k : Nat), v' = v ∧ i = .int .i64 k ∧ k ≤ (trackedL l).length ∧ Hid (∃ ts : List (Fl × Value × Value), ts.length = k ∧ ts.map (·.1) = ((trackedL l).take k).map (fileL l) ∧ wr.ownsRow w4.heap.size 32 3 v' ts.length (ts.flatMap flCell) ∧ ∀ t ∈ ts, FileAt wr w.heap.size t) ∧ Hid (Fr No w4 wr)) (fun _ i _ => (trackedL l).length - (intOf i).toNat)
        case atStart => exact ⟨_, 0, rfl, rfl, Nat.zero_le _, Lib.hid ⟨[], rfl, rfl, own_none _ _ _ _, by simp⟩, Lib.hid (Fr.refl _ _)⟩
        case round =>
          obtain ⟨v, k, rfl, rfl, hk, hR, hf⟩ := hrel
          by_cases hlt : k < (trackedL l).length
          · obtain ⟨b, o, path, rfl, hp, q0⟩ := at_str HF.out.2.1 k hlt
            have k0 := hf.out.cell (fun e => e) q0
            have hmem := List.mem_of_getElem? hp
            have hne : l ≠ [] := by
              rintro rfl
              rw [mem_tracked] at hmem
              simp [madeB] at hmem
            have hFi := Lib.hid (file_any (H.out.fr (HF.out.1.trans hf.out)) (HT.out.fr (HF.out.1.trans hf.out) (fun e => e)) path HS.out.lens hne (added_le hmem HF.out.2.2.1.2.2) (added_nodup path HF.out.2.2.2))
            have HP := Lib.hid hp
            have h6 : (trackedL l).length ≤ 6 := HF.out.2.2.1.2.1
            clear hp q0 hmem hne
            go_wp2_with (first
              | (go_at_call 36; refine hFi.out.mono ?_; rintro e w5 ⟨ys, vl, vp, rfl, hys1, hys2, hol, hop, hf5⟩; have hys := lines_is (added_nodup path HF.out.2.2.2) hys1 hys2; subst hys; obtain ⟨Al, cl, rfl, _⟩ := own_form hol; obtain ⟨Av, cv, rfl, _⟩ := own_form hop)
              | (at_builtin; refine stopAt ?_))
            obtain ⟨ts, ht1, ht2, ht3, ht4⟩ := hR.out
            subst ht1
            have hb4 : w4.heap.size ≤ wr.heap.size := hf.out.size
            have hbw : w.heap.size ≤ wr.heap.size := by have := HF.out.1.size; have := hf.out.size; omega
            have hf6 : Fr No w5 (w5.alloc (.cells #[.string path, .slice Al (deadBy (linesOf l path) (killsOf l (hunkIdx l path))).length cl, .slice Av (relPairsL (closeM (addAll (linesOf l path) (edgesOf l (hunkIdx l path))))).length cv] 32)) := Fr.alloc _ _ _
            have hwf := hf5.trans hf6
            have hs6 := hwf.size
            refine Hid.go (growN rfl _ _ 25 rfl w4.heap.size 32 i0 _ 3 64 Tryz.underlying25 HI.out.1 HI.out.2.1 HI.out.2.2.1 HI.out.2.2.2 rfl (by decide) v ts.length (ts.flatMap flCell) rfl (own_fr ht3 hwf (fun _ _ e => e)) ⟨w5.heap.size, 0, none⟩ 1 1 [.string path, .slice Al (deadBy (linesOf l path) (killsOf l (hunkIdx l path))).length cl, .slice Av (relPairsL (closeM (addAll (linesOf l path) (edgesOf l (hunkIdx l path))))).length cv] rfl rfl (new_cells _ _ _) (by simp [Value.oneCell']) (by decide) (by unfold maxLen; omega) (by omega) (by omega) ?_)
            intro g cap w7 hown hfa hg hgl
            clear k0
            go_wp2
            go_roundw
            case rel =>
              have hown6 := own_fr ht3 hwf (fun _ _ e => e)
              have hnew : FileAt w5 w.heap.size (fileL l path, .slice Al (deadBy (linesOf l path) (killsOf l (hunkIdx l path))).length cl, .slice Av (relPairsL (closeM (addAll (linesOf l path) (edgesOf l (hunkIdx l path))))).length cv) := by
                refine ⟨own_lower hol hbw, ?_⟩
                have := own_lower hop hbw
                rw [pairCells_pr] at this
                simpa [fileL] using this
              have hall : ∀ t ∈ ts ++ [(fileL l path, .slice Al (deadBy (linesOf l path) (killsOf l (hunkIdx l path))).length cl, .slice Av (relPairsL (closeM (addAll (linesOf l path) (edgesOf l (hunkIdx l path))))).length cv)], FileAt w7 w.heap.size t := by
                intro t ht
                have h6 : FileAt (w5.alloc (.cells #[.string path, .slice Al (deadBy (linesOf l path) (killsOf l (hunkIdx l path))).length cl, .slice Av (relPairsL (closeM (addAll (linesOf l path) (edgesOf l (hunkIdx l path))))).length cv] 32)) w.heap.size t := by
                  rcases List.mem_append.1 ht with ht | ht
                  · exact (ht4 t ht).fr hwf (fun _ _ e => e) (fun _ _ e => e)
                  · rw [List.mem_singleton.1 ht]
                    exact hnew.fr hf6 (fun _ _ e => e) (fun _ _ e => e)
                exact h6.fr hfa (own_apart h6.1 hown6 (by decide)) (own_apart h6.2 hown6 (by decide))
              refine ⟨_, ts.length + 1, rfl, by go_num, by omega, Lib.hid ⟨ts ++ [(fileL l path, _, _)], by simp, ?_, ?_, hall⟩, Lib.hid ((hf.out.trans hwf).comp hfa (fun _ _ e => e) (fun i hi e => ?_))⟩
              · rw [take_snoc HP.out]
                simp [ht2]
              · rw [List.length_append, List.flatMap_append]
                exact hown
              · have := (own_block hown6 e).1; omega
            case measure => simp [intOf]; omega
          · obtain rfl : k = (trackedL l).length := by omega
            rw [List.take_length] at hR
            go_wp2
            go_ret2
            obtain ⟨ts, ht1, ht2, ht3, ht4⟩ := hR.out
            have he : ofE l = 0 := by simp [ofE, HG.out.1, HG.out.2.1, HG.out.2.2]
            refine ⟨_, by rw [he]; rfl, ?_, HF.out.1.trans hf.out⟩
            rw [ofF, if_pos he, ← ht2]
            exact ownRow_sl rFl flCell (·.1) (fun _ => rfl) (by decide) ht3 (fun t ht => (ht4 t ht).sl)
end Go.Proofs.YthnfkjcndidoaaaGreatDoor
