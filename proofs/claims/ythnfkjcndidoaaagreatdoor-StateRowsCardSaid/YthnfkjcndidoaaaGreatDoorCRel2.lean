import Derived.Test.YthnfkjcndidoaaaGreatDoorCRel
set_option linter.unusedVariables false
set_option linter.unusedSimpArgs false
namespace Go.Proofs.YthnfkjcndidoaaaGreatDoor
open Go.RowKit Go.Shelf
attribute [local go_sem] Oper.semAt_some

theorem RowIs.drew {w : World} {b d n x : Nat} (h : RowIs w b d n x) : RowIs w.drew b d n x := h.fr (Fr.drew No w) (fun e => e) (fun e => e)
theorem RelIs.drew {w : World} {br ba : Nat} {bs : List (Nat × Nat)} {xs : List Nat} (h : RelIs w br ba bs xs) : RelIs w.drew br ba bs xs := h.fr (Fr.drew No w) (fun _ _ e => e)
theorem Tab.drew {w : World} (h : Tab w) : Tab w.drew := h.fr (Fr.drew No w) (fun e => e)
theorem Tab.lt {w : World} (h : Tab w) : 0 < w.heap.size := World.block_lt_of_cell? _ _ (h 0 (by decide))
def partL (xs : List Nat) (k : Nat) : List Nat := xs.take k ++ List.replicate (xs.length - k) 0
theorem partL_len (xs : List Nat) (k : Nat) (hk : k ≤ xs.length) : (partL xs k).length = xs.length := by simp [partL]; omega
theorem partL_zero (xs : List Nat) : partL xs 0 = List.replicate xs.length 0 := by simp [partL]
theorem partL_all (xs : List Nat) : partL xs xs.length = xs := by simp [partL]
theorem partL_get (xs : List Nat) (k : Nat) (hk : k < xs.length) : (partL xs k)[k]? = some 0 := by
  rw [partL, List.getElem?_append_right (by simp; omega), List.getElem?_replicate, if_pos (by simp; omega)]
theorem partL_set (xs : List Nat) (k x : Nat) (hx : xs[k]? = some x) : (partL xs k).set k x = partL xs (k + 1) := by
  have hk := (List.getElem?_eq_some_iff.1 hx).1
  have h3 : (xs.take k).length = k := by simp; omega
  obtain ⟨m, hm⟩ : ∃ m, xs.length - k = m + 1 := ⟨xs.length - k - 1, by omega⟩
  have h2 : xs.length - (k + 1) = m := by omega
  have ht : xs.take (k + 1) = xs.take k ++ [x] := by rw [List.take_add_one, hx]; rfl
  have e : ((xs.take k) ++ List.replicate (m + 1) 0).set k x = xs.take k ++ (List.replicate (m + 1) 0).set 0 x := by
    rw [List.set_append_right _ _ (by omega), h3, Nat.sub_self]
  rw [partL, partL, hm, h2, ht, e, List.replicate_succ, List.set_cons_zero]
  simp

theorem d_ne {br ba : Nat} {bs : List (Nat × Nat)} (h : (relBlocks br ba bs).Nodup) {i b d : Nat} (hi : bs[i]? = some (b, d)) : ¬ One d br ∧ ¬ One d ba := by
  refine ⟨fun e => ?_, (ne_ba h (List.mem_of_getElem? hi)).2.symm⟩
  simp only [relBlocks, List.nodup_cons, List.mem_cons, List.mem_flatMap, not_or, not_exists, not_and] at h
  have := h.1.2 (b, d) (List.mem_of_getElem? hi)
  simp [show br = d from e] at this

set_option maxHeartbeats 1000000 in
theorem relCopy {w : World} {br ba : Nat} {bs : List (Nat × Nat)} {xs : List Nat} (h : RelIs w br ba bs xs) (hT : Tab w) : Calls Tryz.prog 106 #[.pointer (some ⟨br, 0, none⟩)] w fun e w' =>
    ∃ br' ba' bs', e = .returned (.pointer (some ⟨br', 0, none⟩)) ∧ RelIs w' br' ba' bs' xs ∧ (∀ i, i ∈ relBlocks br' ba' bs' → w.heap.size ≤ i) ∧ Fr No w w' := by
  have H := Lib.hid h
  have hle := h.le
  have HT := Lib.hid hT
  clear h hT
  go_enter Tryz.func106, Tryz.ntmps106
  go_wp2_with (first | (go_at_call 145; refine (relLen H.out).mono ?_; rintro e w' ⟨rfl, rfl⟩) | (go_at_call 65; refine (relNew xs.length hle).mono ?_; rintro e w1 ⟨br', ba', bs', rfl, h1, hlo, hf1⟩; have cb1 := h1.cb; rw [List.length_replicate] at cb1))
  have HH := Lib.hid (And.intro h1 (And.intro hlo hf1))
  clear h1 hlo hf1 cb1
  go_loopw [13] (fun i wr => ∃ (k : Nat), i = .int .i64 k ∧ k ≤ xs.length ∧ Hid (RelIs wr br' ba' bs' (partL xs k)) ∧ Hid (Fr No w wr)) (fun i _ => xs.length - (intOf i).toNat)
  case atStart => exact ⟨0, rfl, Nat.zero_le _, Lib.hid (by rw [partL_zero]; exact HH.out.1), Lib.hid HH.out.2.2⟩
  case round =>
    obtain ⟨k, rfl, hk, hR, hF⟩ := hrel
    by_cases hlt : k < xs.length
    · obtain ⟨b1, d1, x1, e1, e2, hc1, hr1⟩ := hR.out.row k (by rw [partL_len _ _ hk]; exact hlt)
      obtain ⟨b2, d2, x2, e3, e4, hc2, hr2⟩ := (H.out.fr hF.out (fun _ _ e => e)).row k hlt
      have cb1 := hR.out.cb
      have cb2 := (H.out.fr hF.out (fun _ _ e => e)).cb
      rw [partL_len _ _ hk] at cb1 hr1
      obtain rfl : x1 = 0 := Option.some.inj (e2.symm.trans (partL_get xs k hlt))
      have hd1 := HH.out.2.1 _ (mem_bs e1 br' ba').2
      have hb2 := H.out.lt _ (mem_bs e3 br ba).1
      have hd2 := H.out.lt _ (mem_bs e3 br ba).2
      have hTl := HT.out.lt
      have hn1 := (d_ne hR.out.nodup e1).1
      have hn2 := (d_ne hR.out.nodup e1).2
      have hbr := H.out.lt br (by simp [relBlocks])
      have hba := H.out.lt ba (by simp [relBlocks])
      have hn3 : ¬ One d1 br := fun e => by have e' : br = d1 := e; omega
      have hn4 : ¬ One d1 ba := fun e => by have e' : ba = d1 := e; omega
      have E1 := Lib.hid e1
      have E4 := Lib.hid e4
      have HR1 := Lib.hid hr1
      have HR2 := Lib.hid hr2
      clear e1 e2 e3 e4 hr1 hr2
      go_wp2_with fail
      go_region_held3 (fun w' => w'.cell? ⟨br', 0, none⟩ = some (.slice (some ⟨ba', 0, none⟩) xs.length xs.length) ∧ w'.cell? ⟨br, 0, none⟩ = some (.slice (some ⟨ba, 0, none⟩) xs.length xs.length) ∧ w'.cell? ⟨ba', k, none⟩ = some (.pointer (some ⟨b1, 0, none⟩)) ∧ w'.cell? ⟨ba, k, none⟩ = some (.pointer (some ⟨b2, 0, none⟩)))
        (first | go_keep | (go_split_ands; refine ⟨hf5.cell (p := ⟨br', 0, none⟩) hn1 (by assumption), hf5.cell (p := ⟨br, 0, none⟩) hn3 (by assumption), hf5.cell (p := ⟨ba', k, none⟩) hn2 (by assumption), hf5.cell (p := ⟨ba, k, none⟩) hn4 (by assumption)⟩))
        (first | (go_at_call 107; refine (rowOr HR1.out.drew HR2.out.drew (HT.out.fr hF.out (fun e => e)).drew ⟨by omega, by omega, by omega⟩).mono ?_; rintro e w5 ⟨⟨v, rfl⟩, g5, hf5⟩))
      go_wp2
      go_roundw
      case rel =>
        refine ⟨k + 1, by go_num, by omega, Lib.hid ?_, Lib.hid (hF.out.comp hf5.undrew (fun _ _ e => e) (fun i hi e => by have e' : i = d1 := e; omega))⟩
        rw [← partL_set xs k x2 E4.out]
        have g6 : RowIs w5 b1 d1 (partL xs k).length x2 := by rw [partL_len _ _ hk]; simpa using g5
        exact hR.out.set E1.out g6 hf5.undrew
      case measure => simp [intOf]; omega
    · obtain rfl : k = xs.length := by omega
      go_wp2
      go_ret
      refine ⟨br', ba', bs', rfl, by have := hR.out; rwa [partL_all] at this, HH.out.2.1, hF.out⟩

set_option maxHeartbeats 1000000 in
theorem rowOr_self {w : World} {b d n x : Nat} (h : RowIs w b d n x) (hT : Tab w) :
    Calls Tryz.prog 107 #[.pointer (some ⟨b, 0, none⟩), .pointer (some ⟨b, 0, none⟩)] w fun e w' => (∃ v, e = .returned (.bool v)) ∧ Fr No w w' := by
  have hb := (Array.getElem?_eq_some_iff.1 h.hb).1
  have hd0 := (Array.getElem?_eq_some_iff.1 h.hd).1
  have hG := hT.lt
  have H := Lib.hid h
  have HT := Lib.hid hT
  clear h hT
  refine enterIn (n := 3) ?_
  refine callsIn_of_wp_marks Tryz.func107 rfl trivial ?_
  simp only [Tryz.ntmps107, List.size_toArray, List.length_cons, List.length_nil, Nat.reduceAdd, Nat.reduceSub, Array.replicate_succ, Array.replicate_zero, List.push_toArray, List.append_toArray, List.nil_append, List.cons_append]
  gi_wp2_with (refine ⟨trivial, ?_⟩; gi_at_call 148; refine (callsIn_wide.2 (rowEach _ _)).mono ?_; rintro e w' ⟨rfl, rfl⟩)
  refine named (fun W1 hW1 => ?_)
  have bx : Box W1 w.heap.size 146 (.pointer (some ⟨b, 0, none⟩)) := by rw [hW1]; exact ((Box.new _ _ _).old _).old _
  have bi : Box W1 (w.heap.size + 1) 4 (.bool false) := by
    rw [hW1]
    have := Box.new (w.alloc (.cells #[.pointer (some ⟨b, 0, none⟩)] 146)) 4 (.bool false)
    rw [World.size_alloc] at this
    exact this.old _
  have bo : Box W1 (w.heap.size + 1 + 1) 146 (.pointer (some ⟨b, 0, none⟩)) := by
    rw [hW1]
    have := Box.new ((w.alloc (.cells #[.pointer (some ⟨b, 0, none⟩)] 146)).alloc (.cells #[.bool false] 4)) 146 (.pointer (some ⟨b, 0, none⟩))
    rwa [World.size_alloc, World.size_alloc] at this
  have hsz : W1.heap.size = w.heap.size + 1 + 1 + 1 := by rw [hW1]; simp
  have hfr : Fr No w W1 := by rw [hW1]; exact ((Fr.alloc _ _ _).trans (Fr.alloc _ _ _)).trans (Fr.alloc _ _ _)
  clear hW1
  have h1 := H.out.fr hfr (fun e => e) (fun e => e)
  have hT1 := HT.out.fr hfr (fun e => e)
  refine range_outer (rowEach_iter h1 bo hT1) enters_rowEach1 rfl (fun _ => rfl) (fun i hi => ⟨by omega, rfl⟩)
    (fun pre O W => (O = fun _ => False) ∧ Fr No w W ∧ Box W w.heap.size 146 (.pointer (some ⟨b, 0, none⟩)) ∧ (∃ v, Box W (w.heap.size + 1) 4 (.bool v)))
    (fun _ _ _ _ => False) (fun _ => False) (fun _ e => e.elim) ?hJ (fun _ _ _ _ _ h _ => h) ⟨rfl, hfr, bx, ⟨_, bi⟩⟩ ?hround ?hdone (fun _ _ _ _ _ _ _ h _ _ => (h _ (Fr.refl _ _)).elim)
  case hJ =>
    rintro s O A A' ⟨rfl, g4, g2, ⟨v, g3⟩⟩ hf
    exact ⟨rfl, g4.comp hf (fun _ _ e => e) (fun i hi e => by omega), g2.fr hf (by omega), ⟨v, g3.fr hf (by omega)⟩⟩
  case hround =>
    rintro l pre i rest O W hx hl1 hl2 ⟨rfl, g4, g2, ⟨v, g3⟩⟩ hOl
    refine keepK (fun K hK => ?_)
    gi_wp2
    refine hK.out _ _ ⟨Fr.refl _ _, ?_⟩
    rintro W2 hf2 _ _ ⟨_, g4, g2, ⟨v, g3⟩⟩
    clear hK
    have g1 := H.out.fr g4 (fun e => e) (fun e => e)
    have him : i ∈ bitsUp x := by rw [hx]; simp
    have hi := bitsUp_lt h1.hx him
    have hib : inB n i = true := by simp [inB, hi]
    have hv : hasB n x i = true := by
      simp only [bitsUp, List.mem_filter] at him
      simp [hasB, hib, him.2]
    have cb := g2.cell
    have HV := Lib.hid hv
    have HI := Lib.hid hib
    clear hv hib him
    refine keepQ (fun Q hQ => ?_)
    gi_wp2_with (first | (refine ⟨trivial, ?_⟩; gi_at_call 147; refine (CallsIn.inRound l (callsIn_wide.2 (rowThere g1 i true HI.out))).mono ?_; rintro e w' ⟨rfl, rfl⟩) | (refine ⟨trivial, ?_⟩; gi_at_call 146; refine (CallsIn.inRound l (callsIn_wide.2 (rowHas g1 i true HV.out))).mono ?_; rintro e w' ⟨rfl, rfl⟩))
    exact hQ.out _ _ _ ⟨_, Fr.refl _ _, fun j hj => hj.elim, rfl, g4, g2, ⟨_, g3⟩⟩
  case hdone =>
    rintro O W hW hD -
    obtain ⟨v, g3⟩ := (hW W (Fr.refl _ _)).2.2.2
    have c3 := g3.cell
    have Hd := Lib.hid hD
    clear hD
    gi_wp2
    refine ⟨by simp, .inl ⟨_, _, rfl, run_takeDeferred Hd.out, ?_⟩⟩
    obtain ⟨_, j4, _, _⟩ := hW _ (fr_putObj_one W _ (.deferred none))
    exact ⟨_, results_tmp rfl _ _ _, ⟨_, rfl⟩, j4⟩

/-! ### Closure -/
def closeStep (k : Nat) (xs : List Nat) (a : Nat) : List Nat := if (xs.getD a 0).testBit k then xs.set a (xs.getD a 0 ||| xs.getD k 0) else xs
def closeK (xs : List Nat) (k m : Nat) : List Nat := (List.range m).foldl (closeStep k) xs
def closeL (xs : List Nat) (m : Nat) : List Nat := (List.range m).foldl (fun ys k => closeK ys k xs.length) xs
def closeM (xs : List Nat) : List Nat := closeL xs xs.length
theorem closeStep_len (k : Nat) (xs : List Nat) (a : Nat) : (closeStep k xs a).length = xs.length := by unfold closeStep; split <;> simp
theorem closeK_len (xs : List Nat) (k : Nat) : ∀ m, (closeK xs k m).length = xs.length
  | 0 => rfl
  | m + 1 => by
    have := closeK_len xs k m
    simp only [closeK] at this
    simp only [closeK, List.range_succ, List.foldl_append, List.foldl_cons, List.foldl_nil, closeStep_len, this]
theorem closeK_succ (xs : List Nat) (k m : Nat) : closeK xs k (m + 1) = closeStep k (closeK xs k m) m := by simp [closeK, List.range_succ]
theorem closeL_succ (xs : List Nat) (m : Nat) : closeL xs (m + 1) = closeK (closeL xs m) m xs.length := by simp [closeL, List.range_succ]
theorem closeL_len (xs : List Nat) : ∀ m, (closeL xs m).length = xs.length
  | 0 => rfl
  | m + 1 => by rw [closeL_succ, closeK_len, closeL_len xs m]
theorem hasM_in {xs : List Nat} {a k : Nat} (ha : a < xs.length) (hk : k < xs.length) : hasM xs a k = (xs.getD a 0).testBit k := by simp [hasM, hasB, inB, ha, hk]

set_option maxHeartbeats 2000000 in
theorem relClosure {w : World} {br ba : Nat} {bs : List (Nat × Nat)} {xs : List Nat} (h : RelIs w br ba bs xs) (hT : Tab w) : Calls Tryz.prog 68 #[.pointer (some ⟨br, 0, none⟩)] w fun e w' =>
    ∃ br' ba' bs', e = .returned (.pointer (some ⟨br', 0, none⟩)) ∧ RelIs w' br' ba' bs' (closeM xs) ∧ (∀ i, i ∈ relBlocks br' ba' bs' → w.heap.size ≤ i) ∧ Fr No w w' := by
  have H := Lib.hid h
  have hle := h.le
  have HT := Lib.hid hT
  have hTl := hT.lt
  clear h hT
  go_enter Tryz.func68, Tryz.ntmps68
  go_wp2_with (go_at_call 106; refine (relCopy H.out HT.out).mono ?_; rintro e w1 ⟨br', ba', bs', rfl, h1, hlo, hf1⟩; have cb1 := h1.cb)
  have HH := Lib.hid (And.intro h1 (And.intro hlo hf1))
  clear h1 hlo hf1 cb1
  go_loopw [13] (fun i wr => ∃ (k : Nat), i = .int .i64 k ∧ k ≤ xs.length ∧ Hid (RelIs wr br' ba' bs' (closeL xs k)) ∧ Hid (Fr No w wr)) (fun i _ => xs.length - (intOf i).toNat)
  case atStart => exact ⟨0, rfl, Nat.zero_le _, Lib.hid HH.out.1, Lib.hid HH.out.2.2⟩
  case round =>
    obtain ⟨k, rfl, hk, hR, hF⟩ := hrel
    by_cases hlt : k < xs.length
    · have cb1 := hR.out.cb
      rw [closeL_len] at cb1
      go_wp2
      clear cb1
      obtain ⟨wo, hwo⟩ : ∃ wo : World, wo = wr := ⟨_, rfl⟩
      rw [← hwo] at hR hF ⊢
      clear hwo
      go_loopw [5, 21] (fun v i wq => ∃ (a : Nat), i = .int .i64 a ∧ a ≤ xs.length ∧ Hid (RelIs wq br' ba' bs' (closeK (closeL xs k) k a)) ∧ Hid (Fr No w wq)) (fun _ i _ => xs.length - (intOf i).toNat)
      case atStart => exact ⟨0, rfl, Nat.zero_le _, hR, hF⟩
      case round =>
        clear hR hF
        obtain ⟨a, rfl, ha, hR, hF⟩ := hrel
        by_cases hlt2 : a < xs.length
        · have hlen : (closeK (closeL xs k) k a).length = xs.length := by rw [closeK_len, closeL_len]
          have hstep := closeK_succ (closeL xs k) k a
          have H0 := hasM_in (xs := closeK (closeL xs k) k a) (a := a) (k := k) (by omega) (by omega)
          generalize hcur : closeK (closeL xs k) k a = cur at hR hlen hstep H0
          clear hcur
          cases hv : hasM cur a k with
          | false =>
            have hnx : closeK (closeL xs k) k (a + 1) = cur := by rw [hstep, closeStep, ← H0, hv]; rfl
            have HV := Lib.hid hv
            have HN := Lib.hid hnx
            clear hv hstep H0 hnx hlen
            go_wp2_with (go_at_call 104; refine (relHas hR.out a k false HV.out).mono ?_; rintro e w' ⟨rfl, rfl⟩)
            go_roundw
            case rel => exact ⟨a + 1, by go_num, by omega, Lib.hid (by rw [HN.out]; exact hR.out), hF⟩
            case measure => simp [intOf]; omega
          | true =>
            have hnx : closeK (closeL xs k) k (a + 1) = cur.set a (cur.getD a 0 ||| cur.getD k 0) := by rw [hstep, closeStep, ← H0, hv]; rfl
            obtain ⟨b1, d1, x1, e1, e2, hc1, hr1⟩ := hR.out.row a (by omega)
            obtain ⟨b2, d2, x2, e3, e4, hc2, hr2⟩ := hR.out.row k (by omega)
            have cb1 := hR.out.cb
            rw [hlen] at cb1
            have g1 : cur.getD a 0 = x1 := by rw [List.getD_eq_getElem?_getD, e2]; rfl
            have g2 : cur.getD k 0 = x2 := by rw [List.getD_eq_getElem?_getD, e4]; rfl
            rw [g1, g2] at hnx
            have hn1 := (d_ne hR.out.nodup e1).1
            have hn2 := (d_ne hR.out.nodup e1).2
            have hd1 := HH.out.2.1 _ (mem_bs e1 br' ba').2
            have HV := Lib.hid hv
            have HN := Lib.hid hnx
            have E1 := Lib.hid e1
            have HR1 := Lib.hid hr1
            have HR2 := Lib.hid hr2
            by_cases hak : a = k
            · subst hak
              obtain ⟨rfl, rfl⟩ : b1 = b2 ∧ d1 = d2 := by have := e1.symm.trans e3; simpa using this
              obtain rfl : x1 = x2 := Option.some.inj (e2.symm.trans e4)
              have HS := Lib.hid (show cur.set a (x1 ||| x1) = cur by rw [Nat.or_self]; exact set_same cur a x1 e2)
              clear e1 e2 e3 e4 hr1 hr2 g1 g2 hv hstep H0 hnx hlen hc2
              go_wp2_with (go_at_call 104; refine (relHas hR.out a a true HV.out).mono ?_; rintro e w' ⟨rfl, rfl⟩)
              go_region_held3 (fun w' => w'.cell? ⟨br', 0, none⟩ = some (.slice (some ⟨ba', 0, none⟩) xs.length xs.length) ∧ w'.cell? ⟨ba', a, none⟩ = some (.pointer (some ⟨b1, 0, none⟩)))
                (first | go_keep | (go_split_ands; refine ⟨hf5.cell (p := ⟨br', 0, none⟩) (fun e => e) (by assumption), hf5.cell (p := ⟨ba', a, none⟩) (fun e => e) (by assumption)⟩))
                (first | (go_at_call 107; refine (rowOr_self HR1.out.drew (HT.out.fr hF.out (fun e => e)).drew).mono ?_; rintro e w5 ⟨⟨v, rfl⟩, hf5⟩))
              go_wp2
              go_roundw
              case rel => exact ⟨a + 1, by go_num, by omega, Lib.hid (by rw [HN.out, HS.out]; exact hR.out.fr hf5.undrew (fun _ _ e => e)), Lib.hid (hF.out.trans hf5.undrew)⟩
              case measure => simp [intOf]; omega
            · have hd := flat_ne bs' (List.nodup_cons.1 (List.nodup_cons.1 hR.out.nodup).2).2 e1 e3 hak
              simp only at hd
              have hL := Lib.hid hlen
              clear e1 e2 e3 e4 hr1 hr2 g1 g2 hv hstep H0 hnx hlen
              go_wp2_with (go_at_call 104; refine (relHas hR.out a k true HV.out).mono ?_; rintro e w' ⟨rfl, rfl⟩)
              go_region_held3 (fun w' => w'.cell? ⟨br', 0, none⟩ = some (.slice (some ⟨ba', 0, none⟩) xs.length xs.length) ∧ w'.cell? ⟨ba', a, none⟩ = some (.pointer (some ⟨b1, 0, none⟩)) ∧ w'.cell? ⟨ba', k, none⟩ = some (.pointer (some ⟨b2, 0, none⟩)))
                (first | go_keep | (go_split_ands; refine ⟨hf5.cell (p := ⟨br', 0, none⟩) hn1 (by assumption), hf5.cell (p := ⟨ba', a, none⟩) hn2 (by assumption), hf5.cell (p := ⟨ba', k, none⟩) hn2 (by assumption)⟩))
                (first | (go_at_call 107; refine (rowOr HR1.out.drew HR2.out.drew (HT.out.fr hF.out (fun e => e)).drew ⟨fun e => hd.1 e.symm, fun e => hd.2 e.symm, by omega⟩).mono ?_; rintro e w5 ⟨⟨v, rfl⟩, g5, hf5⟩))
              go_wp2
              go_roundw
              case rel => exact ⟨a + 1, by go_num, by omega, Lib.hid (by rw [HN.out]; exact hR.out.set E1.out g5 hf5.undrew), Lib.hid (hF.out.comp hf5.undrew (fun _ _ e => e) (fun i hi e => by have e' : i = d1 := e; omega))⟩
              case measure => simp [intOf]; omega
        · obtain rfl : a = xs.length := by omega
          go_wp2
          go_roundw
          case rel => exact ⟨k + 1, by go_num, by omega, Lib.hid (by rw [closeL_succ]; exact hR.out), hF⟩
          case measure => simp [intOf]; omega
    · obtain rfl : k = xs.length := by omega
      go_wp2
      go_ret
      exact ⟨br', ba', bs', rfl, hR.out, HH.out.2.1, hF.out⟩
end Go.Proofs.YthnfkjcndidoaaaGreatDoor
