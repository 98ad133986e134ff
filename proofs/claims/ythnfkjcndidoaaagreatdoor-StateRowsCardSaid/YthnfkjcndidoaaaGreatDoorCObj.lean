import Derived.Test.YthnfkjcndidoaaaGreatDoorCLeg
set_option linter.unusedVariables false
set_option linter.unusedSimpArgs false
namespace Go.Proofs.YthnfkjcndidoaaaGreatDoor
open Go.RowKit Go.Shelf

/-! ### state.Obj -/
theorem eqlNilPr (w : World) (a : Option Addr) (n c n' c' : Nat) : (binOp .eql 30 (.slice a n c) (.slice none n' c')).run Tryz.prog w = .ok (.bool a.isNone) w := Lib.run_eql_slice_nil w _ _ a n c n' c' Tryz.underlying30
set_option maxRecDepth 100000 in
theorem clone_zero (w : World) (a : Addr) (c : Nat) : Calls Tryz.prog 44 #[.slice (some a) 0 c] w fun e w' => ∃ v, e = .returned v ∧ w'.ownsRow w.heap.size 84 2 v 0 [] ∧ Fr No w w' := by
  have q := eqlNilPr
  go_enter Tryz.func44, Tryz.ntmps44
  go_wp2
  go_ret
  exact ⟨_, rfl, ⟨rfl, .inr ⟨w.heap.size, 0, #[], rfl, Nat.le_refl _, heap_last _ _, Nat.le_refl _, by decide, rfl, rfl⟩⟩, Fr.alloc _ _ _⟩
theorem prCells_get (xs : List Pr) (j : Nat) : (xs.flatMap prCell)[j]? = (xs[j / 2]?).bind fun x => (prCell x)[j % 2]? := flat_get prCell 2 (by decide) (fun _ => rfl) xs j
theorem prCells_len (xs : List Pr) : (xs.flatMap prCell).length = xs.length * 2 := by
  induction xs with
  | nil => rfl
  | cons x r ih => rw [List.flatMap_cons, List.length_append, ih]; simp [prCell]; omega
theorem clonePr {w : World} {A : Option Addr} {c : Nat} {xs : List Pr} (h : SlIs rPr w (.slice A xs.length c) xs) (hn : xs.length ≤ 1000000) : Calls Tryz.prog 44 #[.slice A xs.length c] w fun e w' => ∃ v, e = .returned v ∧ w'.ownsRow w.heap.size 84 2 v xs.length (xs.flatMap prCell) ∧ Fr No w w' := by
  by_cases h0 : xs = []
  · subst h0
    cases A with
    | none => exact (AnyE.slices_Clone_nil Tryz.lClonePr 0 c w).mono fun _ _ ⟨h1, h2⟩ => ⟨_, h1, by rw [h2]; exact own_none _ _ _ _, by rw [h2]; exact Fr.refl _ _⟩
    | some a => exact clone_zero w a c
  · obtain ⟨A', c', e, h1, h2, h3⟩ := h
    obtain ⟨rfl, rfl⟩ : A = A' ∧ c = c' := by simpa using e
    obtain ⟨b, o, rfl, h4⟩ := h3 h0
    obtain ⟨i0, hi, hz0, hz1, hz2⟩ := info_parts info_pair
    refine (AnyE.slices_Clone Tryz.lClonePr i0 _ 2 16 hi hz0 hz1 hz2 rfl (by decide) (fun w => by kernel_rfl) b o xs.length c (xs.flatMap prCell) w (prCells_len xs) (by unfold maxLen; omega) (by omega) (fun j u hu => ?_) (fun u hu => ?_)).mono fun _ _ ⟨v, h5, h6, _, h7⟩ => ⟨v, h5, h6, Fr.of_below h7⟩
    · rw [prCells_get] at hu
      cases hx : xs[j / 2]? with
      | none => rw [hx] at hu; cases hu
      | some x =>
        rw [hx] at hu
        obtain ⟨cs, h5, h6⟩ := h4 (j / 2) x hx
        obtain rfl : cs = prCell x := h5
        have := h6 (j % 2) u (by simpa using hu)
        rwa [show o + j / 2 * rPr.sz + j % 2 = o + j by show o + j / 2 * 2 + j % 2 = _; omega] at this
    · obtain ⟨x, _, hx⟩ := List.mem_flatMap.1 hu
      simp only [prCell, List.mem_cons, List.not_mem_nil, or_false] at hx
      rcases hx with rfl | rfl <;> rfl
theorem info_str : (Tryz.prog.info? 9).map (fun i => (i.zero, i.size, i.bytes)) = some (some (.string ⟨#[]⟩), 1, 16) := by kernel_rfl
/-- A slice of strings of one's own. -/
def OwnS (w : World) (base : Nat) (v : Value) (xs : List ByteArray) : Prop := w.ownsRow base 9 1 v xs.length (xs.map Value.string)
theorem OwnS.app {w : World} {base : Nat} {v : Value} {xs : List ByteArray} {n : Nat} {y : ByteArray} (h : w.ownsRow base 9 1 v n (xs.map Value.string ++ [.string y])) (hn : n = xs.length + 1) : OwnS w base v (xs ++ [y]) := by
  subst hn
  unfold OwnS
  rw [List.map_append, List.length_append]
  exact h
set_option maxHeartbeats 4000000 in
set_option maxRecDepth 100000 in
theorem obj_any {w : World} {x : Fl} {Al : Option Addr} {cl : Nat} {Ap : Option Addr} {cp : Nat} (h : FlV w x Al cl Ap cp) (hn : x.lines.length ≤ 1000000) (hm : x.pairs.length ≤ 1000000) :
    Calls Tryz.prog 15 #[.agg #[.string x.path, .slice Al x.lines.length cl, .slice Ap x.pairs.length cp]] w fun e w' => ∃ v1 v2, e = .returned (.agg #[v1, v2]) ∧ OwnS w' w.heap.size v1 (x.lines.map (·.text)) ∧ w'.ownsRow w.heap.size 84 2 v2 x.pairs.length (x.pairs.flatMap prCell) ∧ Fr No w w' := by
  have H := Lib.hid h
  have HN := Lib.hid (And.intro hn hm)
  obtain ⟨_, _, _, _, hb⟩ := h.1.form
  obtain ⟨i0, hi, hz0, hz1, hz2⟩ := info_parts info_str
  have HI := Lib.hid (And.intro hi (And.intro hz0 (And.intro hz1 hz2)))
  clear h hn hm hi hz0 hz1 hz2
  have hf0 : Fr No w ((w.alloc (.cells #[.string x.path, .slice Al x.lines.length cl, .slice Ap x.pairs.length cp] 32)).alloc (.cells #[.slice none 0 0, .slice none 0 0] 41)) := (Fr.alloc _ _ _).trans (Fr.alloc _ _ _)
  have hA0 : ((w.alloc (.cells #[.string x.path, .slice Al x.lines.length cl, .slice Ap x.pairs.length cp] 32)).alloc (.cells #[.slice none 0 0, .slice none 0 0] 41)).heap[w.heap.size]? = some (.cells #[.string x.path, .slice Al x.lines.length cl, .slice Ap x.pairs.length cp] 32 (0, 0)) := (Fr.alloc No _ _).heap (fun e => e) (heap_last _ _)
  have hA1 : ((w.alloc (.cells #[.string x.path, .slice Al x.lines.length cl, .slice Ap x.pairs.length cp] 32)).alloc (.cells #[.slice none 0 0, .slice none 0 0] 41)).heap[w.heap.size + 1]? = some (.cells #[.slice none 0 0, .slice none 0 0] 41 (0, 0)) := by
    have := heap_last (w.alloc (.cells #[.string x.path, .slice Al x.lines.length cl, .slice Ap x.pairs.length cp] 32)) (.cells #[.slice none 0 0, .slice none 0 0] 41)
    rwa [World.size_alloc] at this
  have HA := Lib.hid (And.intro hf0 (And.intro hA0 hA1))
  clear hf0 hA0 hA1
  go_enter Tryz.func15, Tryz.ntmps15
  go_wp2_with (go_at_call 44; refine (clonePr (H.out.2.fr HA.out.1) HN.out.2).mono ?_; rintro e w2 ⟨vp, rfl, hvp, hf2⟩; obtain ⟨Av, cv, rfl, _⟩ := own_form hvp; have c1 := cell_of_heap ((Fr.alloc No w2 (.cells #[.slice none 0 0, .slice Av x.pairs.length cv] 41)).heap (fun e => e) (hf2.heap (fun e => e) HA.out.2.1)) 1)
  clear c1
  refine namedN (fun W3 hW3 => ?_)
  have hf3 : Fr No w2 W3 := by rw [hW3]; exact Fr.alloc _ _ _
  have hs3 : W3.heap.size = w2.heap.size + 1 := by rw [hW3]; simp
  have hB3 : W3.heap[w2.heap.size]? = some (.cells #[.slice none 0 0, .slice Av x.pairs.length cv] 41 (0, 0)) := by rw [hW3]; exact heap_last _ _
  have hs2 : w.heap.size + 2 ≤ w2.heap.size := by have := hf2.size; simp at this; omega
  have hvs := (own_lower hvp (show w.heap.size ≤ _ by simp; omega))
  have hvl : ∀ i, OwnO (.slice Av x.pairs.length cv) i → w.heap.size + 1 < i ∧ i < w2.heap.size := fun i hi => by have := (own_block hvp hi); simp at this; omega
  obtain ⟨b3, hb3⟩ : ∃ b3, b3 = w2.heap.size := ⟨_, rfl⟩
  rw [← hb3] at hB3 hs2 hs3 hvl ⊢
  have HW := Lib.hid (And.intro ((HA.out.1.trans hf2).trans hf3) (And.intro hB3 (And.intro ((hf2.trans hf3).heap (fun e => e) HA.out.2.2) (And.intro (own_fr hvs hf3 (fun _ _ e => e)) (And.intro hs2 (And.intro hs3 hvl))))))
  clear hf2 hf3 hs3 hB3 hs2 hvs hvp hW3 hvl hb3
  go_loopw [13] (fun i wr => ∃ (v : Value) (k : Nat), i = .int .i64 k ∧ k ≤ x.lines.length ∧ Hid (OwnS wr W3.heap.size v ((x.lines.take k).map (·.text)) ∧ wr.heap[b3]? = some (.cells #[v, .slice Av x.pairs.length cv] 41 (0, 0)) ∧ wr.heap[w.heap.size + 1]? = some (.cells #[.slice none 0 0, .slice none 0 0] 41 (0, 0)) ∧ wr.ownsRow w.heap.size 84 2 (.slice Av x.pairs.length cv) x.pairs.length (x.pairs.flatMap prCell) ∧ Fr No w wr ∧ W3.heap.size ≤ wr.heap.size)) (fun i _ => x.lines.length - (intOf i).toNat)
  case atStart => exact ⟨.slice none 0 0, 0, rfl, Nat.zero_le _, Lib.hid ⟨own_none _ _ _ _, HW.out.2.1, HW.out.2.2.1, HW.out.2.2.2.1, HW.out.1, Nat.le_refl _⟩⟩
  case round =>
    obtain ⟨v, k, rfl, hk, hS⟩ := hrel
    obtain ⟨Ao, co, rfl, _⟩ := own_form hS.out.1
    by_cases hlt : k < x.lines.length
    · obtain ⟨b, o, z, rfl, hz, q0, q1, q2, q3⟩ := at_ln H.out.1 k hlt
      have hcm := hS.out.2.2.2.2.1.cm
      have k0 := hcm _ _ _ q0
      have k1 := hcm _ _ _ q1
      have k2 := hcm _ _ _ q2
      have k3 := hcm _ _ _ q3
      have HZ := Lib.hid hz
      have hal : Fr No wr (wr.alloc (.cells #[.int .u32 z.id.p, .int .i64 z.id.n, .string z.text, .bool z.dead] 47)) := Fr.alloc _ _ _
      have c0 := cell_of_heap (hal.heap (fun e => e) hS.out.2.1) 0
      have hal2 : Fr No wr ((wr.alloc (.cells #[.int .u32 z.id.p, .int .i64 z.id.n, .string z.text, .bool z.dead] 47)).alloc (.cells #[.string z.text] 9)) := hal.trans (Fr.alloc _ _ _)
      have hO := own_fr hS.out.1 hal2 (fun _ _ e => e)
      have hlen : ((x.lines.take k).map (·.text)).length ≤ k := by simp; omega
      have hn := HN.out.1
      have hsw := hS.out.2.2.2.2.2
      obtain ⟨zs, hzs⟩ : ∃ zs, zs = (x.lines.take k).map (·.text) := ⟨_, rfl⟩
      rw [← hzs] at hO hlen c0 hS
      have HX := Lib.hid (And.intro hO (And.intro hzs hal2))
      clear hcm q0 q1 q2 q3 hz hal hO hzs hal2
      go_wp2_with (at_builtin; refine stopAt ?_)
      refine Hid.go (growN rfl _ _ 39 rfl W3.heap.size 9 i0 _ 1 16 Tryz.underlying39 HI.out.1 HI.out.2.1 HI.out.2.2.1 HI.out.2.2.2 rfl (by decide) _ _ _ rfl HX.out.1 ⟨wr.heap.size + 1, 0, none⟩ 1 1 [.string z.text] rfl rfl (by have := new_cells (wr.alloc (.cells #[.int .u32 z.id.p, .int .i64 z.id.n, .string z.text, .bool z.dead] 47)) [.string z.text] 9; rw [World.size_alloc] at this; exact this) (by simp [Value.oneCell']) (by decide) (by unfold maxLen; omega) (by omega) (by simp; omega) ?_)
      intro g cap w1 hown hfa hg hgl
      have hB := HX.out.2.2.heap (fun e => e) hS.out.2.1
      have hnb : ¬ OwnO (.slice Ao zs.length co) b3 := fun e => by
        obtain ⟨_, _, cur, hc⟩ := own_block HX.out.1 e
        have := hc.symm.trans hB
        simp at this
      have hB1 := hfa.heap hnb hB
      have d0 := cell_of_heap hB1 0
      have f0 := frozen_of_heap hB1 0
      have HH := Lib.hid (And.intro hown (And.intro hfa (And.intro hB1 (And.intro hg hgl))))
      clear hown hfa hB1 hg hgl hB hnb k0 k1 k2 k3 c0
      go_wp2
      go_roundw
      case rel =>
        obtain ⟨hown, hfa, hB1, hg, hgl⟩ := HH.out
        obtain ⟨s1, s2, s3, s4, s5, s6⟩ := hS.out
        have hO6 := HX.out.1
        have hset := Fr.set1 w1 b3 0 (.slice (some ⟨g, 0, none⟩) (zs.length + 1) cap)
        have hob : ∀ i, OwnO (.slice Ao zs.length co) i → W3.heap.size ≤ i := fun i hi => (own_block hO6 hi).1
        have hbl := HW.out.2.2.2.2.1
        have hb33 := HW.out.2.2.2.2.2.1
        refine ⟨.slice (some ⟨g, 0, none⟩) (zs.length + 1) cap, k + 1, by go_num, by omega, Lib.hid ⟨?_, ?_, ?_, ?_, ?_, ?_⟩⟩
        · have h8 := OwnS.app hown rfl
          rw [take_map HZ.out, ← HX.out.2.1]
          exact own_fr h8 hset (fun i hi e => by
            have e : i = b3 := e
            have := (own_block hown (ownO_slice.2 (ownO_slice.1 hi))).1
            omega)
        · simp [World.setCell, Array.getElem?_modify, hB1]
        · exact hset.heap (fun e => by have e : w.heap.size + 1 = b3 := e; omega) (hfa.heap (fun e => by have := hob _ e; omega) (HX.out.2.2.heap (fun e => e) s3))
        · exact own_fr (own_fr (own_fr s4 HX.out.2.2 (fun _ _ e => e)) hfa (fun i hi e => by have := hob _ e; have := (HW.out.2.2.2.2.2.2 i hi).2; omega)) hset (fun i hi e => by have e : i = b3 := e; have := (HW.out.2.2.2.2.2.2 i hi).2; omega)
        · exact ((s5.trans HX.out.2.2).comp hfa (fun _ _ e => e) (fun i hi e => by have := hob _ e; omega)).comp hset (fun _ _ e => e) (fun i hi e => by have e : i = b3 := e; omega)
        · have h1 := hset.size; have h2 := hfa.size; have h3 := HX.out.2.2.size; omega
      case measure => simp [intOf]; omega
    · obtain rfl : k = x.lines.length := by omega
      obtain ⟨s1, s2, s3, s4, s5, s6⟩ := hS.out
      have d0 := cell_of_heap s2 0
      have d1 := cell_of_heap s2 1
      have e0 := cell_of_heap s3 0
      have e1 := cell_of_heap s3 1
      have z0 := frozen_of_heap s3 0
      have z1 := frozen_of_heap s3 1
      rw [List.take_length] at s1
      have HE := Lib.hid (And.intro s1 (And.intro s2 (And.intro s3 (And.intro s4 (And.intro s5 s6)))))
      clear s1 s2 s3 s4 s5 s6
      go_wp2
      obtain ⟨s1, s2, s3, s4, s5, s6⟩ := HE.out
      have hfe : Fr (One (w.heap.size + 1)) wr ((wr.setCell ⟨w.heap.size + 1, 0, none⟩ (.slice Ao (x.lines.map (·.text)).length co)).setCell ⟨w.heap.size + 1, 1, none⟩ (.slice Av x.pairs.length cv)) := (Fr.set1 _ _ 0 _).trans (Fr.set1 _ _ 1 _)
      have hhe : ((wr.setCell ⟨w.heap.size + 1, 0, none⟩ (.slice Ao (x.lines.map (·.text)).length co)).setCell ⟨w.heap.size + 1, 1, none⟩ (.slice Av x.pairs.length cv)).heap[w.heap.size + 1]? = some (.cells #[.slice Ao (x.lines.map (·.text)).length co, .slice Av x.pairs.length cv] 41 (0, 0)) := by
        simp [World.setCell, Array.getElem?_modify, s3]
      have hb33 := HW.out.2.2.2.2.2.1
      have hb2 := HW.out.2.2.2.2.1
      simp only [List.take_length, List.length_map] at hfe hhe s1 ⊢
      refine bodyPost_ret (results_cell_row rfl _ _ (w.heap.size + 1) _ _ _ _ rfl hhe Tryz.underlying41 rfl (by kernel_rfl)) rfl ?_
      refine ⟨_, _, rfl, own_lower (own_fr s1 hfe (fun i hi e => ?_)) (by omega), own_fr s4 hfe (fun i hi e => ?_), s5.comp hfe (fun _ _ e => e) (fun i hi e => ?_)⟩
      · have e : i = w.heap.size + 1 := e
        have := (own_block s1 hi).1; omega
      · have e : i = w.heap.size + 1 := e
        have := HW.out.2.2.2.2.2.2 i hi; omega
      · have e : i = w.heap.size + 1 := e; omega
end Go.Proofs.YthnfkjcndidoaaaGreatDoor
