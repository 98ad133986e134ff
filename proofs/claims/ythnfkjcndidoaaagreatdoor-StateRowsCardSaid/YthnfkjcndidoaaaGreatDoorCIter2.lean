import Derived.Test.YthnfkjcndidoaaaGreatDoorCIter
set_option linter.unusedVariables false
set_option linter.unusedSimpArgs false
namespace Go.Proofs.YthnfkjcndidoaaaGreatDoor
open Go.RowKit Go.Shelf

/-! ### state.hunks -/
/-- The places of the hunks of a path: which patch, which hunk. -/
def ptIdx (path : ByteArray) (i : Nat) (hs : List Hk) (j : Nat) : List (Nat × Nat) := ((List.range j).filter fun j => hs[j]?.any fun h => decide (h.path = path)).map fun j => (i, j)
def idxAt (l : List Pt) (path : ByteArray) (i : Nat) : List (Nat × Nat) := match l[i]? with | some x => ptIdx path i x.hunks x.hunks.length | none => []
def idxTo (l : List Pt) (path : ByteArray) (k : Nat) : List (Nat × Nat) := (List.range k).flatMap (idxAt l path)
def hunkIdx (l : List Pt) (path : ByteArray) : List (Nat × Nat) := idxTo l path l.length
theorem range_split {k n : Nat} (h : k < n) : List.range n = List.range k ++ k :: List.range' (k + 1) (n - (k + 1)) := by
  obtain ⟨m, hm⟩ : ∃ m, n = (k + 1) + m := ⟨n - (k + 1), by omega⟩
  subst hm
  have e : List.range (k + 1 + m) = List.range (k + 1) ++ List.range' (k + 1) m := by
    rw [List.range_eq_range', List.range_eq_range', ← List.range'_append (step := 1)]
    simp
  rw [e, List.range_succ]
  simp
theorem ptIdx_succ {path : ByteArray} {i j : Nat} {hs : List Hk} {y : Hk} (hy : hs[j]? = some y) : ptIdx path i hs (j + 1) = ptIdx path i hs j ++ if y.path = path then [(i, j)] else [] := by
  unfold ptIdx
  rw [List.range_succ, List.filter_append, List.map_append]
  by_cases h : y.path = path <;> simp [hy, h]
theorem idxTo_succ {l : List Pt} {path : ByteArray} {k : Nat} {x : Pt} (hx : l[k]? = some x) : idxTo l path (k + 1) = idxTo l path k ++ ptIdx path k x.hunks x.hunks.length := by
  unfold idxTo
  rw [List.range_succ, List.flatMap_append]
  simp [idxAt, hx]
theorem hunkIdx_split {l : List Pt} {path : ByteArray} {i j : Nat} {x : Pt} {y : Hk} (hx : l[i]? = some x) (hy : x.hunks[j]? = some y) (hp : y.path = path) : ∃ r, hunkIdx l path = (idxTo l path i ++ ptIdx path i x.hunks j) ++ (i, j) :: r := by
  have hi : i < l.length := (List.getElem?_eq_some_iff.1 hx).1
  have hj : j < x.hunks.length := (List.getElem?_eq_some_iff.1 hy).1
  have e1 : hunkIdx l path = idxTo l path i ++ (ptIdx path i x.hunks x.hunks.length ++ (List.range' (i + 1) (l.length - (i + 1))).flatMap (idxAt l path)) := by
    unfold hunkIdx idxTo
    rw [range_split hi, List.flatMap_append, List.flatMap_cons]
    simp [idxAt, hx]
  have e2 : ∃ r, ptIdx path i x.hunks x.hunks.length = ptIdx path i x.hunks j ++ (i, j) :: r := by
    unfold ptIdx
    rw [range_split hj, List.filter_append, List.map_append, List.filter_cons]
    simp [hy, hp]
  obtain ⟨r, e2⟩ := e2
  rw [e1, e2]
  exact ⟨r ++ (List.range' (i + 1) (l.length - (i + 1))).flatMap (idxAt l path), by simp⟩
theorem mem_hunkIdx {l : List Pt} {path : ByteArray} {i j : Nat} : (i, j) ∈ hunkIdx l path ↔ ∃ x y, l[i]? = some x ∧ x.hunks[j]? = some y ∧ y.path = path := by
  simp only [hunkIdx, idxTo, List.mem_flatMap, List.mem_range]
  constructor
  · rintro ⟨i', hi', h⟩
    unfold idxAt at h
    cases hx : l[i']? with
    | none => rw [hx] at h; simp at h
    | some x =>
      rw [hx] at h
      simp only [ptIdx, List.mem_map, List.mem_filter, List.mem_range, Prod.mk.injEq] at h
      obtain ⟨j', ⟨hj', h⟩, rfl, rfl⟩ := h
      cases hy : x.hunks[j']? with
      | none => rw [hy] at h; simp at h
      | some y => rw [hy] at h; exact ⟨x, y, hx, hy, by simpa using h⟩
  · rintro ⟨x, y, hx, hy, hp⟩
    refine ⟨i, (List.getElem?_eq_some_iff.1 hx).1, ?_⟩
    unfold idxAt
    rw [hx]
    simp only [ptIdx, List.mem_map, List.mem_filter, List.mem_range, Prod.mk.injEq]
    exact ⟨j, ⟨(List.getElem?_eq_some_iff.1 hy).1, by simp [hy, hp]⟩, by simp⟩
def slAddr : Value → Addr | .slice (some a) _ _ => a | _ => ⟨0, 0, none⟩
/-- What a hunk's cell holds. -/
def hkCell (wa : World) (b o i j k : Nat) : Value :=
  (wa.cell? ⟨(slAddr ((wa.cell? ⟨b, o + i * 5 + 4, none⟩).getD undef)).block, (slAddr ((wa.cell? ⟨b, o + i * 5 + 4, none⟩).getD undef)).off + j * 4 + k, none⟩).getD undef
def hkArgs (wa : World) (b o : Nat) (p : Nat × Nat) : Array Value := #[(wa.cell? ⟨b, o + p.1 * 5, none⟩).getD undef, .agg #[hkCell wa b o p.1 p.2 0, hkCell wa b o p.1 p.2 1, hkCell wa b o p.1 p.2 2, hkCell wa b o p.1 p.2 3]]
theorem hkCell_eq {wa : World} {b o i j k b' o' n c : Nat} {v : Value} (h : wa.cell? ⟨b, o + i * 5 + 4, none⟩ = some (.slice (some ⟨b', o', none⟩) n c)) (hv : wa.cell? ⟨b', o' + j * 4 + k, none⟩ = some v) : hkCell wa b o i j k = v := by
  simp [hkCell, h, slAddr, hv]
attribute [local go_sem] Oper.semAt_some
set_option maxHeartbeats 4000000 in
set_option maxRecDepth 100000 in
theorem hunks_iter {wa w0 : World} {b o c : Nat} {l : List Pt} (h : SlIs rPt wa (.slice (some ⟨b, o, none⟩) l.length c) l) (hf : Fr No wa w0) {B1 B2 : Nat} {path : ByteArray} (hB1 : Box w0 B1 22 (.slice (some ⟨b, o, none⟩) l.length c)) (hB2 : Box w0 B2 9 (.string path))
    (hN1 : wa.heap.size ≤ B1) (hN2 : wa.heap.size ≤ B2) :
    Iter Tryz.prog 102 #[.pointer (some ⟨B1, 0, none⟩), .pointer (some ⟨B2, 0, none⟩)] (hkArgs wa b o) (hunkIdx l path) (fun i => i < wa.heap.size ∨ i = B1 ∨ i = B2) w0 := by
  intro lp J Jx O W hsrc hO hl hls hJ hJx h0 hY
  have hB1W : Box W B1 22 (.slice (some ⟨b, o, none⟩) l.length c) := (hsrc B1 (.inr (.inl rfl))).2.trans hB1
  have hst : ItSt wa W B1 B2 lp (.slice (some ⟨b, o, none⟩) l.length c) path O W := ⟨hB1W, (hsrc B2 (.inr (.inr rfl))).2.trans hB2,
    fun i hi => ⟨(hO i hi).1, Nat.le_of_not_lt fun e => (hO i hi).2 (.inl e), fun e => (hO i hi).2 (.inr (.inl e)), fun e => (hO i hi).2 (.inr (.inr e))⟩,
    fun i hi => ((hsrc i (.inl hi)).2).trans (hf.same i hi (fun e => e)), Nat.le_refl _, Nat.le_trans hN1 (Nat.le_of_lt hB1W.lt),
    Nat.le_of_not_lt fun e => hls (.inl e), fun e => hls (.inr (.inl e)), fun e => hls (.inr (.inr e)), hl⟩
  have H := Lib.hid h
  have HY := Lib.hid hY
  have HSt := Lib.hid hst
  obtain ⟨_, _, _, _, hb⟩ := h.form
  have c1 := hB1W.cell
  clear h hf hB1 hB2 hsrc hO hls hY hB1W hst hN1 hN2 hl
  refine (callsIn_wide (n := 3)).1 ?_
  refine callsIn_of_wp Tryz.func102 rfl trivial ?_
  simp only [Tryz.ntmps102, List.size_toArray, List.length_cons, List.length_nil, Nat.reduceAdd, Nat.reduceSub, Array.replicate_succ, Array.replicate_zero, List.push_toArray, List.append_toArray, List.nil_append, List.cons_append]
  gi_wp2
  clear c1
  have HJ0 := Lib.hid h0
  clear h0
  gi_loopw [10] (fun i wr => ∃ (k : Nat) (O1 : Nat → Prop), i = .int .i64 k ∧ k ≤ l.length ∧ Hid (J (idxTo l path k) O1 wr) ∧ Hid (ItSt wa W B1 B2 lp (.slice (some ⟨b, o, none⟩) l.length c) path O1 wr)) (fun i _ => l.length - (intOf i).toNat)
  case atStart => exact ⟨0, O, rfl, Nat.zero_le _, Lib.hid (by simpa [idxTo] using HJ0.out), HSt⟩
  case round =>
    clear HJ0 HSt
    obtain ⟨k, O1, rfl, hk, hj, hw⟩ := hrel
    by_cases hlt : k < l.length
    · obtain ⟨bx, ox, x, Ad, cd, Am, cm, Ar, cr, Ah, ch, hbo, hx, q0, q1, q2, q3, q4, hp⟩ := at_pt H.out k hlt
      obtain ⟨rfl, rfl⟩ : b = bx ∧ o = ox := by simpa using hbo
      have hcm := hw.out.kp.cm
      have k0 := hcm _ _ _ q0
      have k1 := hcm _ _ _ q1
      have k2 := hcm _ _ _ q2
      have k3 := hcm _ _ _ q3
      have k4 := hcm _ _ _ q4
      have HX := Lib.hid hx
      have HP := Lib.hid hp
      have HQ := Lib.hid (And.intro q0 q4)
      obtain ⟨_, _, _, _, hbh⟩ := hp.hunks.form
      clear hx hp q0 q1 q2 q3 q4 hcm hbo
      gi_wp2
      refine named (fun W2 hW2 => ?_)
      have hw2 := hw.out.alloc (.cells #[.int .u32 x.id, .slice Ad x.deps.length cd, .slice Am x.makes.length cm, .slice Ar x.drops.length cr, .slice Ah x.hunks.length ch] 52)
      have hp2 := Held.new hw.out #[.int .u32 x.id, .slice Ad x.deps.length cd, .slice Am x.makes.length cm, .slice Ar x.drops.length cr, .slice Ah x.hunks.length ch] 52
      have hj2 := hw.out.stab hJ hj.out (.cells #[.int .u32 x.id, .slice Ad x.deps.length cd, .slice Am x.makes.length cm, .slice Ar x.drops.length cr, .slice Ah x.hunks.length ch] 52)
      rw [← hW2] at hw2 hp2 hj2
      have HW2 := Lib.hid (And.intro hw2 (And.intro hp2 hj2))
      obtain ⟨bp, hbp⟩ : ∃ bp, bp = wr.heap.size := ⟨_, rfl⟩
      rw [← hbp] at HW2 ⊢
      clear hw2 hp2 hj2 hW2 k0 k1 k2 k3 k4 hw hj hbp
      gi_loopw [17] (fun i wq => ∃ (j : Nat) (O2 : Nat → Prop), i = .int .i64 j ∧ j ≤ x.hunks.length ∧ Hid (ItSt wa W B1 B2 lp (.slice (some ⟨b, o, none⟩) l.length c) path O2 wq ∧ Held lp bp (.cells #[.int .u32 x.id, .slice Ad x.deps.length cd, .slice Am x.makes.length cm, .slice Ar x.drops.length cr, .slice Ah x.hunks.length ch] 52 (0, 0)) O2 wq ∧ J (idxTo l path k ++ ptIdx path k x.hunks j) O2 wq)) (fun i _ => x.hunks.length - (intOf i).toNat)
      case atStart => exact ⟨0, O1, rfl, Nat.zero_le _, by simpa [ptIdx] using HW2⟩
      case round =>
        clear HW2
        obtain ⟨j, O2, rfl, hjl, hw⟩ := hrel
        by_cases hlt2 : j < x.hunks.length
        · obtain ⟨b', o', y, Aa, ca, Ae, ce, Ak, ck, rfl, hz, q0, q1, q2, q3, hya, hye, hyk⟩ := at_hk HP.out.hunks j hlt2
          have hcm := hw.out.1.kp.cm
          have k0 := hcm _ _ _ q0
          have k1 := hcm _ _ _ q1
          have k2 := hcm _ _ _ q2
          have k3 := hcm _ _ _ q3
          have hargs : hkArgs wa b o (k, j) = #[.int .u32 x.id, .agg #[.string y.path, .slice Aa y.adds.length ca, .slice Ae y.edges.length ce, .slice Ak y.kills.length ck]] := by
            unfold hkArgs
            simp only []
            rw [hkCell_eq HQ.out.2 (by simpa using q0), hkCell_eq HQ.out.2 q1, hkCell_eq HQ.out.2 q2, hkCell_eq HQ.out.2 q3, HQ.out.1]
            rfl
          have HZ := Lib.hid hz
          have hw2 := hw.out.1.alloc (.cells #[.string y.path, .slice Aa y.adds.length ca, .slice Ae y.edges.length ce, .slice Ak y.kills.length ck] 57)
          have hp2 := hw.out.2.1.alloc (.cells #[.string y.path, .slice Aa y.adds.length ca, .slice Ae y.edges.length ce, .slice Ak y.kills.length ck] 57)
          have hj2 := hw.out.1.stab hJ hw.out.2.2 (.cells #[.string y.path, .slice Aa y.adds.length ca, .slice Ae y.edges.length ce, .slice Ak y.kills.length ck] 57)
          have cP := cell_of_heap hp2.1 0
          have cB := hw2.b2.cell
          have HW3 := Lib.hid (And.intro hw2 (And.intro hp2 hj2))
          clear hz hya hye hyk q0 q1 q2 q3 hcm hw2 hp2 hj2
          by_cases hpe : y.path = path
          · have ht : (y.path.toList == path.toList) = true := by simp [hpe]
            obtain ⟨r, hr⟩ := hunkIdx_split HX.out HZ.out hpe
            obtain ⟨fn, tmps, assign, body, hyl, hR⟩ := HY.out _ _ _ O2 _ hr HW3.out.2.2 2
            rw [hargs] at hyl
            have HPE := Lib.hid hpe
            have HRR := Lib.hid hr
            clear hr hpe hargs
            gi_wp2
            refine hR.mono ?_
            rintro e W' ⟨O', hf, hO', (⟨rfl, hj'⟩ | ⟨rfl, hjx⟩)⟩
            · gi_wp2
              refine ⟨⟨j + 1, O', by go_num, by omega, ?_⟩, by simp [intOf]; omega⟩
              obtain ⟨g1, g2, g3⟩ := HW3.out
              refine Lib.hid ⟨g1.go hf hO', g2.go hf hO', ?_⟩
              rw [ptIdx_succ HZ.out, if_pos HPE.out]
              simpa using hj'
            · gi_wp2
              refine bodyPost_ret (results_none rfl _ _ _) rfl (IterEnd.part HRR.out hjx)
          · have ht : (y.path.toList == path.toList) = false := by rw [str_eq]; simp [hpe]
            clear hargs
            gi_wp2
            refine ⟨fun f hf => (by cases hf), ?_⟩
            gi_wp2
            refine ⟨⟨j + 1, O2, by go_num, by omega, ?_⟩, by simp [intOf]; omega⟩
            rw [ptIdx_succ HZ.out, if_neg hpe, List.append_nil]
            exact HW3
        · gi_wp2
          refine ⟨⟨k + 1, O2, by go_num, by omega, ?_, Lib.hid hw.out.1⟩, by simp [intOf]; omega⟩
          rw [idxTo_succ HX.out]
          have g3 := hw.out.2.2
          rw [show j = x.hunks.length by omega] at g3
          exact Lib.hid g3
    · gi_wp2
      go_end0
      rw [show k = l.length by omega] at hj
      exact IterEnd.all hj.out
end Go.Proofs.YthnfkjcndidoaaaGreatDoor
