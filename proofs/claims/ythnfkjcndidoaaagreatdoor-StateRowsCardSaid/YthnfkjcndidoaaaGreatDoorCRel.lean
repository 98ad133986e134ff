import Derived.Test.YthnfkjcndidoaaaGreatDoorCEach
import Derived.Deep.RegionHeld3
import Derived.StillTailTactics
import Derived.StillTactics
import Derived.OwnWalk
set_option linter.unusedVariables false
set_option linter.unusedSimpArgs false
namespace Go.Proofs.YthnfkjcndidoaaaGreatDoor
open Go.RowKit Go.Shelf

def ptrs (bs : List (Nat × Nat)) : List Value := bs.map fun p => .pointer (some ⟨p.1, 0, none⟩)
def relBlocks (br ba : Nat) (bs : List (Nat × Nat)) : List Nat := br :: ba :: bs.flatMap fun p => [p.1, p.2]
/-- A relation of n elements: its struct (br), its array (ba), of each row the struct and the word (bs); of each element those that it is ahead of (xs). -/
structure RelIs (W : World) (br ba : Nat) (bs : List (Nat × Nat)) (xs : List Nat) : Prop where
  len : bs.length = xs.length
  le : xs.length ≤ 64
  hb : W.heap[br]? = some (.cells #[.slice (some ⟨ba, 0, none⟩) xs.length xs.length] 145 (0, 0))
  ha : W.heap[ba]? = some (.cells (ptrs bs).toArray 146 (0, 0))
  rows : ∀ (i : Nat) (p : Nat × Nat) (x : Nat), bs[i]? = some p → xs[i]? = some x → RowIs W p.1 p.2 xs.length x
  nodup : (relBlocks br ba bs).Nodup
theorem mem_bs {bs : List (Nat × Nat)} {i : Nat} {p : Nat × Nat} (h : bs[i]? = some p) (br ba : Nat) : p.1 ∈ relBlocks br ba bs ∧ p.2 ∈ relBlocks br ba bs := by
  have := List.mem_of_getElem? h
  simp only [relBlocks, List.mem_cons, List.mem_flatMap]
  exact ⟨.inr (.inr ⟨p, this, by simp⟩), .inr (.inr ⟨p, this, by simp⟩)⟩
theorem RelIs.fr {S : Nat → Prop} {W W' : World} {br ba : Nat} {bs : List (Nat × Nat)} {xs : List Nat} (h : RelIs W br ba bs xs) (hf : Fr S W W') (hn : ∀ i, i ∈ relBlocks br ba bs → ¬ S i) : RelIs W' br ba bs xs :=
  ⟨h.len, h.le, hf.heap (hn _ (by simp [relBlocks])) h.hb, hf.heap (hn _ (by simp [relBlocks])) h.ha, fun i p x h1 h2 => (h.rows i p x h1 h2).fr hf (hn _ (mem_bs h1 br ba).1) (hn _ (mem_bs h1 br ba).2), h.nodup⟩
theorem RelIs.lt {W : World} {br ba : Nat} {bs : List (Nat × Nat)} {xs : List Nat} (h : RelIs W br ba bs xs) : ∀ i, i ∈ relBlocks br ba bs → i < W.heap.size := by
  intro i hi
  simp only [relBlocks, List.mem_cons, List.mem_flatMap] at hi
  rcases hi with rfl | rfl | ⟨p, hp, hi⟩
  · exact (Array.getElem?_eq_some_iff.1 h.hb).1
  · exact (Array.getElem?_eq_some_iff.1 h.ha).1
  · obtain ⟨k, hk⟩ := List.getElem?_of_mem hp
    have hkl := (List.getElem?_eq_some_iff.1 hk).1
    rw [h.len] at hkl
    have hr := h.rows k p _ hk (List.getElem?_eq_getElem hkl)
    simp only [List.not_mem_nil, or_false] at hi
    rcases hi with rfl | rfl
    · exact (Array.getElem?_eq_some_iff.1 hr.hb).1
    · exact (Array.getElem?_eq_some_iff.1 hr.hd).1

theorem info_prow : (Tryz.prog.info? 146).map (fun i => (i.zero, i.size, i.bytes)) = some (some (.pointer none), 1, 8) := by kernel_rfl
theorem mk_prow (w : World) (k : Nat) (hk : k ≤ 1000) : (Instr.makeSlice 143 (.int .i64 k) (.int .i64 k)).run Tryz.prog w = .ok (.slice (some ⟨w.heap.size, 0, none⟩) k k) (w.alloc (.cells (List.replicate k (.pointer none)).toArray 146)) := by
  obtain ⟨i, hi, hz, hs, hb⟩ := info_parts info_prow
  have := run_make w 143 146 i (.pointer none) Tryz.underlying143 hi hz .i64 .i64 k k (by omega) (Int.le_refl _) (by rw [hb]; omega) (by omega)
  rw [hs] at this
  have e : madeCells (Value.pointer none).cells k = (List.replicate k (.pointer none)).toArray := by
    apply Array.ext
    · simp [madeCells]
    · intro j h1 h2
      simp [madeCells, Value.cells, Nat.mod_one]
  simpa [e] using this

theorem fill_ptr (bs : List (Nat × Nat)) (n k g : Nat) (hl : bs.length = k) (hk : k < n) {d : Nat} : (ptrs bs ++ List.replicate (n - k) (Value.pointer none)).toArray.setIfInBounds k (.pointer (some ⟨g, 0, none⟩)) = (ptrs (bs ++ [(g, d)]) ++ List.replicate (n - (k + 1)) (Value.pointer none)).toArray := by
  obtain ⟨m, hm⟩ : ∃ m, n - k = m + 1 := ⟨n - k - 1, by omega⟩
  have h2 : n - (k + 1) = m := by omega
  have h3 : (ptrs bs).length = k := by simp [ptrs, hl]
  rw [hm, h2, List.setIfInBounds_toArray, ← h3, List.set_append_right _ _ (Nat.le_refl _), Nat.sub_self, List.replicate_succ, List.set_cons_zero]
  simp [ptrs]
theorem relBlocks_snoc (br ba : Nat) (bs : List (Nat × Nat)) (p : Nat × Nat) : relBlocks br ba (bs ++ [p]) = relBlocks br ba bs ++ [p.1, p.2] := by simp [relBlocks]
theorem ne_ba {br ba : Nat} {bs : List (Nat × Nat)} (h : (relBlocks br ba bs).Nodup) {p : Nat × Nat} (hp : p ∈ bs) : p.1 ≠ ba ∧ p.2 ≠ ba := by
  simp only [relBlocks, List.nodup_cons, List.mem_cons, List.mem_flatMap, not_or, not_exists, not_and] at h
  have := h.2.1 p hp
  simp at this
  exact ⟨fun e => this.1 e.symm, fun e => this.2 e.symm⟩

set_option maxRecDepth 10000 in
theorem relNew {w : World} (n : Nat) (hn : n ≤ 64) : Calls Tryz.prog 65 #[.int .i64 n] w fun e w' =>
    ∃ br ba bs, e = .returned (.pointer (some ⟨br, 0, none⟩)) ∧ RelIs w' br ba bs (List.replicate n 0) ∧ (∀ i, i ∈ relBlocks br ba bs → w.heap.size ≤ i) ∧ Fr No w w' := by
  have hmk := fun w => mk_prow w n (by omega)
  go_enter Tryz.func65, Tryz.ntmps65
  go_wp2
  refine namedN (fun W1 hW1 => ?_)
  have hb1 : W1.heap[w.heap.size + 1]? = some (.cells #[.slice (some ⟨w.heap.size, 0, none⟩) n n] 145 (0, 0)) := by
    rw [hW1]
    have := heap_last (w.alloc (.cells (List.replicate n (Value.pointer none)).toArray 146)) (.cells #[.slice (some ⟨w.heap.size, 0, none⟩) n n] 145)
    rwa [World.size_alloc] at this
  have ha1 : W1.heap[w.heap.size]? = some (.cells (ptrs [] ++ List.replicate n (Value.pointer none)).toArray 146 (0, 0)) := by
    rw [hW1]
    exact (Below.heap_alloc _ _ _ (by simp)).trans (heap_last _ _)
  have hf1 : Fr No w W1 := by rw [hW1]; exact (Fr.alloc _ _ _).trans (Fr.alloc _ _ _)
  have hs1 : W1.heap.size = w.heap.size + 1 + 1 := by rw [hW1]; simp
  clear hW1 hmk
  go_loopw [16] (fun i wr => ∃ (k : Nat) (bs : List (Nat × Nat)), i = .int .i64 k ∧ k ≤ n ∧ Hid (bs.length = k) ∧ Hid (wr.heap[w.heap.size + 1]? = some (.cells #[.slice (some ⟨w.heap.size, 0, none⟩) n n] 145 (0, 0))) ∧
      Hid (wr.heap[w.heap.size]? = some (.cells (ptrs bs ++ List.replicate (n - k) (Value.pointer none)).toArray 146 (0, 0))) ∧ Hid (∀ p, p ∈ bs → RowIs wr p.1 p.2 n 0) ∧
      Hid ((relBlocks (w.heap.size + 1) w.heap.size bs).Nodup ∧ (∀ i, i ∈ relBlocks (w.heap.size + 1) w.heap.size bs → w.heap.size ≤ i ∧ i < wr.heap.size)) ∧ Fr No w wr) (fun i _ => n - (intOf i).toNat)
  case atStart => exact ⟨0, [], rfl, Nat.zero_le _, Lib.hid rfl, Lib.hid hb1, Lib.hid (by simpa using ha1), Lib.hid (by simp), Lib.hid ⟨by simp [relBlocks], by simp [relBlocks]; omega⟩, hf1⟩
  case round =>
    obtain ⟨k, bs, rfl, hk, hl, hb, ha, hrows, hnd, hf⟩ := hrel
    clear hb1 ha1 hf1 hs1
    by_cases hlt : k < n
    · have cb : wr.cell? ⟨w.heap.size + 1, 0, none⟩ = some (.slice (some ⟨w.heap.size, 0, none⟩) n n) := by rw [cell_of_heap hb.out]; rfl
      have hsz : w.heap.size + 1 < wr.heap.size := (Array.getElem?_eq_some_iff.1 hb.out).1
      have hcell : (ptrs bs ++ List.replicate (n - k) (Value.pointer none)).toArray[k]? = some (.pointer none) := by
        have := hl.out
        rw [List.getElem?_toArray, List.getElem?_append_right (by simp [ptrs]; omega), List.getElem?_replicate, if_pos (by simp [ptrs]; omega)]
      go_wp2
      go_region_held3 (fun w' => w'.cell? ⟨w.heap.size + 1, 0, none⟩ = some (.slice (some ⟨w.heap.size, 0, none⟩) n n))
        (first | go_keep | exact hfr.cell (fun e => e) cb)
        (first | (go_at_call 101; refine (bitsNew _ n hn).mono ?_; rintro e w' ⟨rfl, hsz', hrow, hfr⟩; have hax := hfr.heap (fun e => e) ha.out; have c5 := (cell_of_heap hax k).trans hcell; have f5 := frozen_of_heap hax k))
      go_wp2
      go_roundw
      case rel =>
        have hfs : Fr (One w.heap.size) wr (w'.setCell ⟨w.heap.size, k, none⟩ (.pointer (some ⟨wr.heap.size + 1, 0, none⟩))) := ((Fr.drew _ wr).trans hfr.of_no).trans (Fr.set1 w' _ _ _)
        have hsz2 : w'.heap.size = wr.heap.size + 2 := hsz'
        have hs2 : (w'.setCell ⟨w.heap.size, k, none⟩ (.pointer (some ⟨wr.heap.size + 1, 0, none⟩))).heap.size = w'.heap.size := by simp [World.setCell]
        refine ⟨k + 1, bs ++ [(wr.heap.size + 1, wr.heap.size)], by go_num, by omega, Lib.hid (by simp [hl.out]), Lib.hid (hfs.heap (show _ ≠ _ by omega) hb.out), Lib.hid ?_, Lib.hid ?_, Lib.hid ?_, hf.comp hfs (fun _ _ e => e) (fun i hi e => by have : i = w.heap.size := e; omega)⟩
        · rw [heap_set hax]
          rw [fill_ptr bs n k _ hl.out hlt]
        · intro p hp
          rcases List.mem_append.1 hp with hp | hp
          · obtain ⟨j, hj⟩ := List.getElem?_of_mem hp
            have hm1 := hnd.out.2 _ (mem_bs hj (w.heap.size + 1) w.heap.size).1
            have hm2 := hnd.out.2 _ (mem_bs hj (w.heap.size + 1) w.heap.size).2
            have hne := ne_ba hnd.out.1 hp
            exact ((hrows.out p hp).fr hfs hne.1 hne.2)
          · obtain rfl : p = (wr.heap.size + 1, wr.heap.size) := by simpa using hp
            exact hrow.fr (Fr.set1 _ _ _ _) (show _ ≠ _ by simp; omega) (show _ ≠ _ by simp; omega)
        · have hm := hnd.out
          rw [relBlocks_snoc]
          refine ⟨List.nodup_append.2 ⟨hm.1, by simp, fun i hi j hj => ?_⟩, fun i hi => ?_⟩
          · have := (hm.2 i hi).2
            simp only [List.mem_cons, List.not_mem_nil, or_false] at hj
            omega
          · rcases List.mem_append.1 hi with hi | hi
            · have := hm.2 i hi
              have := hfs.size
              omega
            · simp only [List.mem_cons, List.not_mem_nil, or_false] at hi
              rw [hs2]
              omega
      case measure => simp [intOf]; omega
    · obtain rfl : k = n := by omega
      go_wp2
      go_ret
      refine ⟨w.heap.size + 1, w.heap.size, bs, rfl, ⟨by simp [hl.out], by simpa using hn, by simpa using hb.out, by simpa using ha.out, fun i p x h1 h2 => ?_, hnd.out.1⟩, fun i hi => (hnd.out.2 i hi).1, hf⟩
      obtain rfl : x = 0 := by
        have := List.mem_of_getElem? h2
        exact (List.mem_replicate.1 this).2
      rw [List.length_replicate]
      exact hrows.out p (List.mem_of_getElem? h1)

theorem flat_ne : ∀ (bs : List (Nat × Nat)), (bs.flatMap fun p => [p.1, p.2]).Nodup → ∀ {i j : Nat} {b d : Nat} {p : Nat × Nat}, bs[i]? = some (b, d) → bs[j]? = some p → i ≠ j → p.1 ≠ d ∧ p.2 ≠ d
  | [], _, i, j, b, d, p, h1, _, _ => by simp at h1
  | q :: bs, hn, i, j, b, d, p, h1, h2, hne => by
    simp only [List.flatMap_cons, List.cons_append, List.nil_append, List.nodup_cons, List.mem_cons, not_or] at hn
    have mem : ∀ {k : Nat} {r : Nat × Nat}, bs[k]? = some r → r.1 ∈ bs.flatMap (fun p => [p.1, p.2]) ∧ r.2 ∈ bs.flatMap (fun p => [p.1, p.2]) := fun hk => by
      have := List.mem_of_getElem? hk
      simp only [List.mem_flatMap]
      exact ⟨⟨_, this, by simp⟩, ⟨_, this, by simp⟩⟩
    cases i with
    | zero =>
      cases j with
      | zero => exact absurd rfl hne
      | succ j =>
        simp only [List.getElem?_cons_zero, Option.some.injEq] at h1
        simp only [List.getElem?_cons_succ] at h2
        subst h1
        have := mem h2
        exact ⟨fun e => hn.2.1 (e ▸ this.1), fun e => hn.2.1 (e ▸ this.2)⟩
    | succ i =>
      simp only [List.getElem?_cons_succ] at h1
      cases j with
      | zero =>
        simp only [List.getElem?_cons_zero, Option.some.injEq] at h2
        subst h2
        have := mem h1
        exact ⟨fun e => hn.1.2 (e ▸ this.2), fun e => hn.2.1 (e ▸ this.2)⟩
      | succ j =>
        simp only [List.getElem?_cons_succ] at h2
        exact flat_ne bs hn.2.2 h1 h2 (by omega)

section
variable {W : World} {br ba : Nat} {bs : List (Nat × Nat)} {xs : List Nat} (h : RelIs W br ba bs xs)
include h
theorem RelIs.cb : W.cell? ⟨br, 0, none⟩ = some (.slice (some ⟨ba, 0, none⟩) xs.length xs.length) := by rw [cell_of_heap h.hb]; rfl
theorem RelIs.row (i : Nat) (hi : i < xs.length) : ∃ b d x, bs[i]? = some (b, d) ∧ xs[i]? = some x ∧ W.cell? ⟨ba, i, none⟩ = some (.pointer (some ⟨b, 0, none⟩)) ∧ RowIs W b d xs.length x := by
  have h1 : i < bs.length := by rw [h.len]; exact hi
  refine ⟨bs[i].1, bs[i].2, xs[i], List.getElem?_eq_getElem h1, List.getElem?_eq_getElem hi, ?_, h.rows i bs[i] xs[i] (List.getElem?_eq_getElem h1) (List.getElem?_eq_getElem hi)⟩
  rw [cell_of_heap h.ha]
  simp [ptrs, h1]
end

theorem relLen {w : World} {br ba : Nat} {bs : List (Nat × Nat)} {xs : List Nat} (h : RelIs w br ba bs xs) : Calls Tryz.prog 145 #[.pointer (some ⟨br, 0, none⟩)] w fun e w' => e = .returned (.int .i64 xs.length) ∧ w = w' := by
  have h0 := h.cb
  go_enter Tryz.func145, Tryz.ntmps145
  go_wp2
  go_ret
  exact ⟨rfl, rfl⟩
theorem relThere {w : World} {br ba : Nat} {bs : List (Nat × Nat)} {xs : List Nat} (h : RelIs w br ba bs xs) (i : Int) (v : Bool) (hv : inB xs.length i = v) : Calls Tryz.prog 103 #[.pointer (some ⟨br, 0, none⟩), .int .i64 i] w fun e w' => e = .returned (.bool v) ∧ w = w' := by
  by_cases h1 : 0 ≤ i <;> by_cases h2 : i < xs.length
  all_goals
    obtain rfl : v = _ := hv.symm.trans (by simp [inB, h1, h2]; rfl)
    have H := Lib.hid h
    clear h hv
    go_enter Tryz.func103, Tryz.ntmps103
    go_wp2_with (go_at_call 145; refine (relLen H.out).mono ?_; rintro e w' ⟨rfl, rfl⟩)
    go_ret
    exact ⟨by simp [h2], rfl⟩
/-- Is a ahead of b? -/
def hasM (xs : List Nat) (a b : Int) : Bool := inB xs.length a && hasB xs.length (xs.getD a.toNat 0) b
theorem relHas {w : World} {br ba : Nat} {bs : List (Nat × Nat)} {xs : List Nat} (h : RelIs w br ba bs xs) (a b : Int) (v : Bool) (hv : hasM xs a b = v) :
    Calls Tryz.prog 104 #[.pointer (some ⟨br, 0, none⟩), .int .i64 a, .int .i64 b] w fun e w' => e = .returned (.bool v) ∧ w = w' := by
  cases hi : inB xs.length a with
  | false =>
    obtain rfl : v = false := hv.symm.trans (by simp [hasM, hi])
    have H := Lib.hid h
    have HI := Lib.hid hi
    clear h hv hi
    go_enter Tryz.func104, Tryz.ntmps104
    go_wp2_with (go_at_call 103; refine (relThere H.out a false HI.out).mono ?_; rintro e w' ⟨rfl, rfl⟩)
    go_ret
    exact ⟨rfl, rfl⟩
  | true =>
    obtain ⟨h0, h1⟩ := inB_t hi
    obtain ⟨k, rfl⟩ := Int.eq_ofNat_of_zero_le h0
    obtain ⟨b1, d1, x, e1, e2, hc, hr⟩ := h.row k (by omega)
    have cb := h.cb
    have hx : xs.getD k 0 = x := by rw [List.getD_eq_getElem?_getD, e2]; rfl
    have HV : Hid (hasB xs.length x b = v) := Lib.hid (by simpa only [hasM, hi, Bool.true_and, Int.toNat_natCast, hx] using hv)
    have H := Lib.hid h
    have HI := Lib.hid hi
    clear h hv hi e1 e2 hx
    go_enter Tryz.func104, Tryz.ntmps104
    go_wp2_with (first | (go_at_call 103; refine (relThere H.out k true HI.out).mono ?_; rintro e w' ⟨rfl, rfl⟩) | (go_at_call 146; refine (rowHas hr b v HV.out).mono ?_; rintro e w' ⟨rfl, rfl⟩))
    go_ret
    exact ⟨rfl, rfl⟩
/-- With one pair more. -/
def addM (xs : List Nat) (a b : Nat) : List Nat := xs.set a (xs.getD a 0 ||| 2 ^ b)
theorem RelIs.set {W W' : World} {br ba : Nat} {bs : List (Nat × Nat)} {xs : List Nat} (h : RelIs W br ba bs xs) {i b d y : Nat} (hi : bs[i]? = some (b, d)) (hr : RowIs W' b d xs.length y) (hf : Fr (One d) W W') : RelIs W' br ba bs (xs.set i y) := by
  have hmem := mem_bs hi br ba
  have hnd := h.nodup
  have hbr : br ≠ d := by
    intro e
    simp only [relBlocks, List.nodup_cons, List.mem_cons, List.mem_flatMap, not_or, not_exists, not_and] at hnd
    have := hnd.1.2 (b, d) (List.mem_of_getElem? hi)
    simp [e] at this
  have hba := (ne_ba hnd (List.mem_of_getElem? hi)).2
  have hil := (List.getElem?_eq_some_iff.1 hi).1
  refine ⟨by simp [h.len], by simpa using h.le, by simpa using hf.heap hbr h.hb, hf.heap hba.symm h.ha, fun j p x h1 h2 => ?_, hnd⟩
  rw [List.length_set]
  by_cases e : i = j
  · subst e
    obtain rfl : (b, d) = p := Option.some.inj (hi.symm.trans h1)
    rw [List.getElem?_set_self (by rw [← h.len]; exact hil)] at h2
    obtain rfl : y = x := Option.some.inj h2
    exact hr
  · rw [List.getElem?_set_ne e] at h2
    have hx := h.rows j p x h1 h2
    have hd : p.1 ≠ d ∧ p.2 ≠ d := flat_ne bs (List.nodup_cons.1 (List.nodup_cons.1 hnd).2).2 hi h1 e
    exact hx.fr hf hd.1 hd.2

theorem set_same : ∀ (xs : List Nat) (k x : Nat), xs[k]? = some x → xs.set k x = xs
  | [], _, _, h => by simp at h
  | y :: xs, 0, x, h => by simp at h; simp [h]
  | y :: xs, k + 1, x, h => by simp at h; simp [set_same xs k x h]
/-- With a pair more, if both are there. -/
def addR (xs : List Nat) (a b : Int) : List Nat := if inB xs.length a && inB xs.length b then addM xs a.toNat b.toNat else xs
theorem addR_len (xs : List Nat) (a b : Int) : (addR xs a b).length = xs.length := by unfold addR addM; split <;> simp
theorem relAdd {w : World} {br ba : Nat} {bs : List (Nat × Nat)} {xs : List Nat} (h : RelIs w br ba bs xs) (a b : Int) :
    Calls Tryz.prog 67 #[.pointer (some ⟨br, 0, none⟩), .int .i64 a, .int .i64 b] w fun e w' => (∃ v, e = .returned (.bool v)) ∧ RelIs w' br ba bs (addR xs a b) ∧ Fr (fun i => i ∈ relBlocks br ba bs) w w' := by
  cases hi : inB xs.length a with
  | false =>
    have H := Lib.hid h
    have HI := Lib.hid hi
    have hr : addR xs a b = xs := by simp [addR, hi]
    rw [hr]
    clear h hi hr
    go_enter Tryz.func67, Tryz.ntmps67
    go_wp2_with (go_at_call 103; refine (relThere H.out a false HI.out).mono ?_; rintro e w' ⟨rfl, rfl⟩)
    go_ret
    exact ⟨⟨_, rfl⟩, H.out, Fr.refl _ _⟩
  | true =>
    cases hi2 : inB xs.length b with
    | false =>
      have H := Lib.hid h
      have HI := Lib.hid hi
      have HI2 := Lib.hid hi2
      have hr : addR xs a b = xs := by simp [addR, hi2]
      rw [hr]
      clear h hi hr hi2
      go_enter Tryz.func67, Tryz.ntmps67
      go_wp2_with (go_at_call 103; first | (refine (relThere H.out a true HI.out).mono ?_; clear HI; rintro e w' ⟨rfl, rfl⟩) | (refine (relThere H.out b false HI2.out).mono ?_; rintro e w' ⟨rfl, rfl⟩))
      go_ret
      exact ⟨⟨_, rfl⟩, H.out, Fr.refl _ _⟩
    | true =>
      obtain ⟨h0, h1⟩ := inB_t hi
      obtain ⟨k, rfl⟩ := Int.eq_ofNat_of_zero_le h0
      obtain ⟨b1, d1, x, e1, e2, hc, hr⟩ := h.row k (by omega)
      have cb := h.cb
      have hx : xs.getD k 0 = x := by rw [List.getD_eq_getElem?_getD, e2]; rfl
      cases hm : hasM xs k b with
      | true =>
        have hr' : addR xs k b = xs := by
          have hb : x.testBit b.toNat = true := by
            simp only [hasM, hi, Bool.true_and, Int.toNat_natCast, hx, hasB, Bool.and_eq_true] at hm
            exact hm.2
          simp only [addR, hi, hi2, Bool.and_self, if_true, addM, Int.toNat_natCast, hx, or_bit_same hb]
          exact set_same xs k x e2
        have H := Lib.hid h
        have HI := Lib.hid hi
        have HI2 := Lib.hid hi2
        have HM := Lib.hid hm
        rw [hr']
        clear h hi hr hi2 hm hr' e1 e2 hx
        go_enter Tryz.func67, Tryz.ntmps67
        go_wp2_with (first | (go_at_call 103; first | (refine (relThere H.out k true HI.out).mono ?_; clear HI; rintro e w' ⟨rfl, rfl⟩) | (refine (relThere H.out b true HI2.out).mono ?_; rintro e w' ⟨rfl, rfl⟩)) | (go_at_call 104; refine (relHas H.out k b true HM.out).mono ?_; rintro e w' ⟨rfl, rfl⟩))
        go_ret
        exact ⟨⟨_, rfl⟩, H.out, Fr.refl _ _⟩
      | false =>
        have H := Lib.hid h
        have HI := Lib.hid hi
        have HI2 := Lib.hid hi2
        have HM := Lib.hid hm
        have E1 := Lib.hid e1
        have HJ := HI
        have HX := Lib.hid hx
        clear h hi hi2 hm e1 e2 hx
        go_enter Tryz.func67, Tryz.ntmps67
        go_wp2_with (first | (go_at_call 103; first | (refine (relThere H.out k true HJ.out).mono ?_; clear HJ; rintro e w' ⟨rfl, rfl⟩) | (refine (relThere H.out b true HI2.out).mono ?_; rintro e w' ⟨rfl, rfl⟩)) | (go_at_call 104; refine (relHas H.out k b false HM.out).mono ?_; rintro e w' ⟨rfl, rfl⟩) | (go_at_call 105; refine (rowPut hr b true HI2.out).mono ?_; rintro e w' ⟨rfl, g5, hf5⟩))
        go_ret
        refine ⟨⟨_, rfl⟩, ?_, hf5.mono (fun i _ e => by obtain rfl : i = d1 := e; exact (mem_bs E1.out br ba).2)⟩
        have he : addR xs k b = xs.set k (putB x b.toNat true) := by
          rw [show putB x b.toNat true = x ||| 2 ^ b.toNat from rfl]
          simp only [addR, HI.out, HI2.out, Bool.and_self, if_true, addM, Int.toNat_natCast, HX.out]
        rw [he]
        exact H.out.set E1.out g5 hf5
end Go.Proofs.YthnfkjcndidoaaaGreatDoor
