import Derived.Test.YthnfkjcndidoaaaGreatDoorCRel2
set_option linter.unusedVariables false
set_option linter.unusedSimpArgs false
namespace Go.Proofs.YthnfkjcndidoaaaGreatDoor
open Go.RowKit Go.Shelf
attribute [local go_sem] Oper.semAt_some

/-! ### Each: all pairs, rising -/
def rowPairs (xs : List Nat) (a : Nat) : List (Nat × Nat) := (bitsUp (xs.getD a 0)).map fun b => (a, b)
def pairsTo (xs : List Nat) (k : Nat) : List (Nat × Nat) := (List.range k).flatMap (rowPairs xs)
def relPairsL (xs : List Nat) : List (Nat × Nat) := pairsTo xs xs.length
theorem pairsTo_succ (xs : List Nat) (k : Nat) : pairsTo xs (k + 1) = pairsTo xs k ++ rowPairs xs k := by simp [pairsTo, List.range_succ]
theorem pairsTo_split (xs : List Nat) (k : Nat) (hk : k < xs.length) : ∃ r, relPairsL xs = pairsTo xs k ++ rowPairs xs k ++ r := by
  obtain ⟨m, hm⟩ : ∃ m, xs.length = (k + 1) + m := ⟨xs.length - (k + 1), by omega⟩
  refine ⟨((List.range' (k + 1) m).flatMap (rowPairs xs)), ?_⟩
  rw [← pairsTo_succ, relPairsL, pairsTo, pairsTo, hm, ← List.flatMap_append, List.range_eq_range', List.range_eq_range']
  congr 1
  rw [← List.range'_append (step := 1)]
  simp

theorem relEach (w : World) (p : Option Addr) : Calls Tryz.prog 108 #[.pointer p] w fun e w' => e = .returned (.func (.func 149) #[] #[.pointer (some ⟨w.heap.size, 0, none⟩)]) ∧ w' = w.alloc (.cells #[.pointer p] 107) := by
  go_enter Tryz.func108, Tryz.ntmps108
  go_wp2
  go_ret
  exact ⟨rfl, rfl⟩
theorem enters_relEach1 : Enters Tryz.prog 149 := enters_of Tryz.func149 (by kernel_rfl) rfl

set_option maxHeartbeats 2000000 in
theorem relEach_iter {w0 : World} {B br ba : Nat} {bs : List (Nat × Nat)} {xs : List Nat} (h : RelIs w0 br ba bs xs) (hB : Box w0 B 107 (.pointer (some ⟨br, 0, none⟩))) (hT : Tab w0) :
    Iter Tryz.prog 149 #[.pointer (some ⟨B, 0, none⟩)] (fun p : Nat × Nat => #[.int .i64 p.1, .int .i64 p.2]) (relPairsL xs) (fun i => i = B ∨ i ∈ relBlocks br ba bs ∨ i = 0) w0 := by
  intro l J Jx O W hsrc hO hl hls hJ hJx h0 hY
  have hsame : Fr (fun i => ¬ (i = B ∨ i ∈ relBlocks br ba bs ∨ i = 0)) W W := Fr.refl _ _
  have cp : ∀ i, (i = B ∨ i ∈ relBlocks br ba bs ∨ i = 0) → W.heap[i]? = w0.heap[i]? := fun i hi => (hsrc i hi).2
  have hR : RelIs W br ba bs xs := ⟨h.len, h.le, (cp _ (.inr (.inl (by simp [relBlocks])))).trans h.hb, (cp _ (.inr (.inl (by simp [relBlocks])))).trans h.ha,
    fun i p x h1 h2 => ⟨(cp _ (.inr (.inl (mem_bs h1 br ba).1))).trans (h.rows i p x h1 h2).hb, (cp _ (.inr (.inl (mem_bs h1 br ba).2))).trans (h.rows i p x h1 h2).hd, (h.rows i p x h1 h2).hn, (h.rows i p x h1 h2).hx⟩, h.nodup⟩
  have hBW : Box W B 107 (.pointer (some ⟨br, 0, none⟩)) := (cp _ (.inl rfl)).trans hB
  have hTW : Tab W := fun j hj => (World.cell?_of_block (cp _ (.inr (.inr rfl)))).trans (hT j hj)
  have hO' : ∀ i, O i → i < W.heap.size ∧ i ≠ B ∧ i ∉ relBlocks br ba bs ∧ i ≠ 0 := fun i hi =>
    ⟨(hO i hi).1, fun e => (hO i hi).2 (.inl e), fun e => (hO i hi).2 (.inr (.inl e)), fun e => (hO i hi).2 (.inr (.inr e))⟩
  have hl' : l ≠ B ∧ l ∉ relBlocks br ba bs ∧ l ≠ 0 := ⟨fun e => hls (.inl e), fun e => hls (.inr (.inl e)), fun e => hls (.inr (.inr e))⟩
  clear h hB hT hsrc hO hls cp hsame w0
  have HR := Lib.hid hR
  have HB := Lib.hid hBW
  have HT := Lib.hid hTW
  have HO := Lib.hid hO'
  have HL := Lib.hid hl'
  have HY := Lib.hid hY
  have H0 := Lib.hid h0
  have cB := hBW.cell
  clear hR hTW hBW hO' hl' hY h0
  refine enterM Tryz.func149 rfl ?_
  simp only [Tryz.ntmps149, List.size_toArray, List.length_cons, List.length_nil, Nat.reduceAdd, Nat.reduceSub, Array.replicate_succ, Array.replicate_zero, List.push_toArray, List.append_toArray, List.nil_append, List.cons_append]
  have hR1 := HR.out.fr (Fr.alloc No W (.cells #[.func (.yield l) #[] #[]] 82)) (fun _ _ e => e)
  have cB1 := (HB.out.old (.cells #[.func (.yield l) #[] #[]] 82)).cell
  clear cB
  go_wp2_with (go_at_call 145; refine (relLen hR1).mono ?_; rintro e w' ⟨rfl, rfl⟩)
  have hlt0 := HB.out.lt
  refine loopK (fun a wr => ∃ (u3 u4 u8 u9 u10 u11 u12 u13 u14 u15 u16 u17 u18 u19 u20 u21 u22 u23 u24 : Value) (k : Nat) (Ds : List Nat) (O1 : Nat → Prop), a = { tmps := #[.func (.yield l) #[] #[], .pointer (some ⟨B, 0, none⟩), .pointer (some ⟨W.heap.size, 0, none⟩), u3, u4, .pointer (some ⟨br, 0, none⟩), .int .i64 xs.length, .int .i64 k, u8, u9, u10, u11, u12, u13, u14, u15, u16, u17, u18, u19, u20, u21, u22, u23, u24], defers := marks Ds } ∧ k ≤ xs.length ∧
      J (pairsTo xs k) O1 wr ∧ (∀ i, O1 i → i < wr.heap.size ∧ i ≠ B ∧ i ∉ relBlocks br ba bs ∧ i ≠ 0 ∧ i ≠ W.heap.size ∧ i ∉ Ds) ∧
      RelIs wr br ba bs xs ∧ Box wr B 107 (.pointer (some ⟨br, 0, none⟩)) ∧ Tab wr ∧ Box wr W.heap.size 82 (.func (.yield l) #[] #[]) ∧
      (∀ D, D ∈ Ds → wr.heap[D]? = some (.deferred (some [])) ∧ W.heap.size < D) ∧ Ds.Nodup)
    (fun a _ => xs.length - (intOf (a.tmps.getD 7 undef)).toNat) ?start ?round
  case start =>
    refine ⟨_, _, _, _, _, _, _, _, _, _, _, _, _, _, _, _, _, _, _, 0, [], O, rfl, Nat.zero_le _, ?_, fun i hi => ?_, hR1, HB.out.old _, HT.out.fr (Fr.alloc No W _) (fun e => e), Box.new _ _ _, by simp, by simp⟩
    · exact hJ _ _ _ _ H0.out (Fr.alloc _ W _)
    · have := HO.out i hi
      exact ⟨by simp; omega, this.2.1, this.2.2.1, this.2.2.2, by omega, by simp⟩
  case round =>
    clear hR1 cB1
    rintro a wr ⟨u3, u4, u8, u9, u10, u11, u12, u13, u14, u15, u16, u17, u18, u19, u20, u21, u22, u23, u24, k, Ds, O1, rfl, hk, hj, hO1, hR, hB, hT, hY, hDs, hnd⟩ K hK
    by_cases hlt : k < xs.length
    · obtain ⟨b1, d1, x1, e1, e2, hc1, hr1⟩ := hR.row k hlt
      have cb := hR.cb
      have hle64 := hR.le
      have cB := hB.cell
      have hWlt : W.heap.size < wr.heap.size := hY.lt
      have hGlt := hT.lt
      have hf1 : Fr No wr (wr.alloc (.cells #[.int .i64 k] 3)) := Fr.alloc _ _ _
      have cb' := hf1.cell (fun e => e) cb
      have cB' := hf1.cell (fun e => e) cB
      have c1' := hf1.cell (fun e => e) hc1
      have HH := Lib.hid (And.intro e1 (And.intro e2 (And.intro hr1 (And.intro hR (And.intro hB (And.intro hT (And.intro hY (And.intro hDs (And.intro hnd (And.intro hO1 hj))))))))))
      clear e1 e2 hr1 hR hB hT hY hDs hnd hO1 hj cb cB hc1 hf1
      go_wp2_with fail
      go_region_held3 (fun w' => w'.cell? ⟨B, 0, none⟩ = some (.pointer (some ⟨br, 0, none⟩)) ∧ w'.cell? ⟨br, 0, none⟩ = some (.slice (some ⟨ba, 0, none⟩) xs.length xs.length) ∧ w'.cell? ⟨wr.heap.size, 0, none⟩ = some (.int .i64 k) ∧ w'.cell? ⟨ba, k, none⟩ = some (.pointer (some ⟨b1, 0, none⟩)))
        (first | go_keep | (go_split_ands; refine ⟨(Fr.alloc No _ _).cell (fun e => e) (by assumption), (Fr.alloc No _ _).cell (fun e => e) (by assumption), (Fr.alloc No _ _).cell (fun e => e) (by assumption), (Fr.alloc No _ _).cell (fun e => e) (by assumption)⟩))
        (first | (go_at_call 148; refine (rowEach _ _).mono ?_; rintro e w5 ⟨rfl, rfl⟩))
      go_wp2
      refine namedN (fun W3 hW3 => ?_)
      have hsz3 : W3.heap.size = wr.heap.size + 1 + 1 := by rw [hW3]; simp [World.heap_drew]
      have hf3 : Fr No wr W3 := by rw [hW3]; exact ((Fr.alloc _ _ _).trans (Fr.alloc _ _ _)).trans (Fr.drew _ _)
      have bA : Box W3 wr.heap.size 3 (.int .i64 k) := by
        rw [hW3]
        exact ((Box.new wr 3 (.int .i64 k)).old _).fr (Fr.drew No _) (fun e => e)
      have bE : Box W3 (wr.heap.size + 1) 146 (.pointer (some ⟨b1, 0, none⟩)) := by
        rw [hW3]
        have := Box.new (wr.alloc (.cells #[.int .i64 k] 3)) 146 (.pointer (some ⟨b1, 0, none⟩))
        rw [World.size_alloc] at this
        exact this.fr (Fr.drew No _) (fun e => e)
      clear hW3 cb' cB' c1'
      obtain ⟨e1, e2, hr1, hR, hB, hT, hY, hDs, hnd, hO1, hj⟩ := HH.out
      have hx1 : xs.getD k 0 = x1 := by rw [List.getD_eq_getElem?_getD, e2]; rfl
      have hm := mem_bs e1 br ba
      have hBlt := hB.lt
      have hRlt := hR.lt
      have hlY := HL.out
      have hle : ∀ i, i ∈ relBlocks br ba bs → i ≠ wr.heap.size ∧ i < wr.heap.size := fun i hi => by have := hRlt i hi; omega
      refine (wpIn_wide (n := 3)).1 (range_outer (rowEach_iter (hr1.fr hf3 (fun e => e) (fun e => e)) bE (hT.fr hf3 (fun e => e))) enters_rowEach1 rfl (fun _ => rfl) (fun i hi => ⟨?_, rfl⟩)
        (fun pre O W' => ∃ O1, O = (fun i => O1 i ∨ i = l) ∧ J (pairsTo xs k ++ pre.map (fun b => (k, b))) O1 W' ∧
          (∀ i, O1 i → i < W'.heap.size ∧ i ≠ B ∧ i ∉ relBlocks br ba bs ∧ i ≠ 0 ∧ i ≠ W.heap.size ∧ i ∉ Ds ∧ i ≠ wr.heap.size) ∧
          RelIs W' br ba bs xs ∧ Box W' B 107 (.pointer (some ⟨br, 0, none⟩)) ∧ Tab W' ∧ Box W' W.heap.size 82 (.func (.yield l) #[] #[]) ∧ (∀ D, D ∈ Ds → W'.heap[D]? = some (.deferred (some []))) ∧ Box W' wr.heap.size 3 (.int .i64 k))
        (fun c pre O W' => c = .ret ∧ ∃ O1, O = (fun i => O1 i ∨ i = l) ∧ Jx (pairsTo xs k ++ pre.map (fun b => (k, b))) O1 W' ∧ (∀ D, D ∈ Ds → W'.heap[D]? = some (.deferred (some []))) ∧ (∀ i, O1 i → i ∉ Ds))
        (fun i => O1 i ∨ i = l) ?hO ?hJ2 ?hJx2 ?h0 ?hround ?hdone ?hstop)
      · rcases hi with rfl | rfl | rfl | rfl
        · exact bE.lt
        · have := (hle _ hm.1).2; omega
        · have := (hle _ hm.2).2; omega
        · omega
      case hO =>
        intro i hi
        rcases hi with hi | rfl
        · have := hO1 i hi
          refine ⟨by omega, fun e => ?_⟩
          rcases e with rfl | rfl | rfl | rfl
          · omega
          · exact this.2.2.1 hm.1
          · exact this.2.2.1 hm.2
          · exact this.2.2.2.1 rfl
        · refine ⟨by omega, fun e => ?_⟩
          rcases e with rfl | rfl | rfl | rfl
          · omega
          · exact hlY.2.1 hm.1
          · exact hlY.2.1 hm.2
          · exact hlY.2.2 rfl
      case hJ2 =>
        rintro s O A A' ⟨O2, rfl, g1, g2, g3, g4, g5, g6, g7, g8⟩ hf
        refine ⟨O2, rfl, hJ _ _ _ _ g1 (hf.mono (fun i _ e => ⟨by omega, fun e' => e.2 (.inl e')⟩)), fun i hi => ⟨Nat.lt_of_lt_of_le (g2 i hi).1 hf.size, (g2 i hi).2⟩, g3.fr hf (fun i hi e => ?_), g4.fr hf (fun e => by omega), g5.fr hf (fun e => by omega), g6.fr hf (fun e => by omega), fun D hD => hf.heap (fun e => ?_) (g7 D hD), g8.fr hf (fun e => by omega)⟩
        · have := (hle i hi).2; omega
        · have := (Array.getElem?_eq_some_iff.1 (hDs D hD).1).1; omega
      case hJx2 =>
        rintro c s O A A' ⟨rfl, O2, rfl, g1, g2, g3⟩ hf
        refine ⟨rfl, O2, rfl, hJx _ _ _ _ g1 (hf.mono (fun i _ e => ⟨by omega, fun e' => e.2 (.inl e')⟩)), fun D hD => hf.heap (fun e => ?_) (g2 D hD), g3⟩
        have := (Array.getElem?_eq_some_iff.1 (hDs D hD).1).1; omega
      case h0 =>
        refine ⟨O1, rfl, ?_, fun i hi => ?_, hR.fr hf3 (fun _ _ e => e), hB.fr hf3 (fun e => e), hT.fr hf3 (fun e => e), hY.fr hf3 (fun e => e), fun D hD => hf3.heap (fun e => e) (hDs D hD).1, bA⟩
        · rw [List.map_nil, List.append_nil]
          exact hJ _ _ _ _ hj hf3.of_no
        · have := hO1 i hi
          exact ⟨by omega, this.2.1, this.2.2.1, this.2.2.2.1, this.2.2.2.2.1, this.2.2.2.2.2, by omega⟩
      case hround =>
        rintro l2 pre b rest O W4 hx hl1 hl2 ⟨O2, rfl, g1, g2, g3, g4, g5, g6, g7, g8⟩ hOl
        refine keepK (fun K2 hK2 => ?_)
        gi_wp2
        refine hK2.out _ _ ⟨Fr.refl _ _, ?_⟩
        clear hK2 g1 g2 g3 g4 g5 g6 g7 g8
        rintro W5 hf5 _ _ ⟨O3, hO3, g1, g2, g3, g4, g5, g6, g7, g8⟩
        rw [hO3]
        obtain ⟨r, hr⟩ := pairsTo_split xs k hlt
        have hsplit : relPairsL xs = (pairsTo xs k ++ pre.map (fun b => (k, b))) ++ (k, b) :: (rest.map (fun b => (k, b)) ++ r) := by
          rw [hr, rowPairs, hx1, hx]
          simp
        obtain ⟨fn, tmps, as_, bd_, hyl, hRn⟩ := HY.out _ _ _ _ _ hsplit g1 2
        have hRn' : RoundIn (Fence.wide.inRound l2) 2 Tryz.prog l fn tmps as_ bd_ W5 _ := hRn
        have cY := g6.cell
        have cA := g8.cell
        have GG := Lib.hid (And.intro g2 (And.intro g3 (And.intro g4 (And.intro g5 (And.intro g6 (And.intro g7 g8))))))
        clear hRn hsplit hr hx g1 g2 g3 g4 g5 g6 g7 g8
        refine keepQ (fun Q hQ => ?_)
        gi_wp2
        refine hRn'.mono ?_
        obtain ⟨g2, g3, g4, g5, g6, g7, g8⟩ := GG.out
        rintro e W6 ⟨O', hf, hO', (⟨rfl, hj'⟩ | ⟨rfl, hjx⟩)⟩
        · have hlW5 : l < W5.heap.size := by have := g6.lt; omega
          gi_wp2
          refine hQ.out _ _ _ ⟨fun i => O' i ∨ i = l, hf, fun i hi => ?_, O', rfl, by simpa using hj', fun i hi => ?_, g3.fr hf (fun i hi e => ?_), g4.fr hf (fun e => ?_), g5.fr hf (fun e => ?_), g6.fr hf (fun e => ?_), fun D hD => hf.heap (fun e => ?_) (g7 D hD), g8.fr hf (fun e => ?_)⟩
          · rcases hi with hi | rfl
            · exact ⟨(hO' i hi).1, (hO' i hi).2.imp .inl id⟩
            · exact ⟨Nat.lt_of_lt_of_le hlW5 hf.size, .inl (.inr rfl)⟩
          · refine ⟨(hO' i hi).1, ?_⟩
            rcases (hO' i hi).2 with h | h
            · exact (g2 i h).2
            · have q1 := g4.lt; have q2 := g3.lt; have q3 := g5.lt; have q4 := g6.lt; have q5 := g8.lt
              refine ⟨by omega, fun e => ?_, by omega, by omega, fun e => ?_, by omega⟩
              · have := q2 i e; omega
              · have := (Array.getElem?_eq_some_iff.1 (g7 i e)).1; omega
          · rcases e with e | rfl
            · exact (g2 i e).2.2.1 hi
            · exact hlY.2.1 hi
          · rcases e with e | e
            · exact (g2 _ e).2.1 rfl
            · exact hlY.1 e.symm
          · rcases e with e | e
            · exact (g2 _ e).2.2.2.1 rfl
            · exact hlY.2.2 e.symm
          · rcases e with e | e
            · exact (g2 _ e).2.2.2.2.1 rfl
            · omega
          · rcases e with e | rfl
            · exact (g2 _ e).2.2.2.2.2.1 hD
            · have := (hDs _ hD).2; omega
          · rcases e with e | e
            · exact (g2 _ e).2.2.2.2.2.2 rfl
            · omega
        · have hlW5 : l < W5.heap.size := by have := g6.lt; omega
          gi_wp2
          refine hQ.out _ _ _ ⟨fun i => O' i ∨ i = l, hf, fun i hi => ?_, rfl, O', rfl, by simpa using hjx, fun D hD => hf.heap (fun e => ?_) (g7 D hD), fun i hi e => ?_⟩
          · rcases hi with hi | rfl
            · exact ⟨(hO' i hi).1, (hO' i hi).2.imp .inl id⟩
            · exact ⟨Nat.lt_of_lt_of_le hlW5 hf.size, .inl (.inr rfl)⟩
          · rcases e with e | rfl
            · exact (g2 _ e).2.2.2.2.2.1 hD
            · have := (hDs _ hD).2; omega
          · rcases (hO' i hi).2 with h | h
            · exact (g2 i h).2.2.2.2.2.1 e
            · have := (Array.getElem?_eq_some_iff.1 (g7 i e)).1; omega
      case hdone =>
        rintro O W4 hW hD hOD
        obtain ⟨O2, hO2, g1, g2, g3, g4, g5, g6, g7, g8⟩ := hW W4 (Fr.refl _ _)
        have hDl := (Array.getElem?_eq_some_iff.1 hD).1
        clear hW
        have GG := Lib.hid (And.intro hO2 (And.intro g1 (And.intro g2 (And.intro g3 (And.intro g4 (And.intro g5 (And.intro g6 (And.intro g7 (And.intro hD hOD)))))))))
        have HS3 := Lib.hid hsz3
        clear g1 g2 g3 g4 g5 g6 g7 g8 hD hOD hO2 hsz3
        go_wp2
        have hsz3 := HS3.out
        obtain ⟨hO2, g1, g2, g3, g4, g5, g6, g7, hD, hOD⟩ := GG.out
        refine hK.out _ _ ⟨_, _, _, _, _, _, _, _, _, _, _, _, _, _, _, _, _, _, _, k + 1, W3.heap.size :: Ds, O2, rfl, by omega, ?_, fun i hi => ?_, g3, g4, g5, g6, fun D hD' => ?_, ?_⟩ (by simp [intOf]; omega)
        · rw [pairsTo_succ, rowPairs, hx1]
          exact g1
        · have := g2 i hi
          refine ⟨this.1, this.2.1, this.2.2.1, this.2.2.2.1, this.2.2.2.2.1, fun e => ?_⟩
          rcases List.mem_cons.1 e with e | e
          · exact (hOD i (by rw [hO2]; exact .inl hi)).2 e
          · exact this.2.2.2.2.2.1 e
        · rcases List.mem_cons.1 hD' with rfl | hD'
          · exact ⟨hD, by omega⟩
          · exact ⟨g7 D hD', (hDs D hD').2⟩
        · refine List.nodup_cons.2 ⟨fun e => ?_, hnd⟩
          have := (Array.getElem?_eq_some_iff.1 (hDs _ e).1).1
          omega
      case hstop =>
        rintro c pre b rest O W4 hx hW hD hOD
        obtain ⟨rfl, O2, hO2, g1, g2, g3⟩ := hW W4 (Fr.refl _ _)
        refine wpIn_wide.2 ?_
        have GG := Lib.hid (And.intro hx (And.intro hW (And.intro hD (And.intro g2 hOD))))
        have HS3 := Lib.hid hsz3
        clear hx hW hD hOD g1 g2 g3 hO2 hsz3
        go_wp2
        have hsz3 := HS3.out
        obtain ⟨hx, hW, hD, g2, hOD⟩ := GG.out
        refine post_marks (Ds := W3.heap.size :: Ds) rfl (fun D hD' => ?_) ?_ (fun W' hf => ⟨_, results_none rfl _ _ _, ?_⟩)
        · rcases List.mem_cons.1 hD' with rfl | hD'
          · exact hD
          · exact g2 D hD'
        · refine List.nodup_cons.2 ⟨fun e => ?_, hnd⟩
          have := (Array.getElem?_eq_some_iff.1 (hDs _ e).1).1
          omega
        · obtain ⟨_, O3, hO3, g1, g2, g3⟩ := hW W4 (Fr.refl _ _)
          obtain ⟨r, hr⟩ := pairsTo_split xs k hlt
          refine IterEnd.part (pre := pairsTo xs k ++ pre.map (fun b => (k, b))) (x := (k, b)) (rest := rest.map (fun b => (k, b)) ++ r) (O := O3) (by rw [hr, rowPairs, hx1, hx]; simp) ?_
          have := hJx _ _ _ W' g1 (hf.mono (fun i hi e => ?_))
          · simpa using this
          · rcases List.mem_cons.1 e with rfl | e
            · exact ⟨by omega, fun e' => (hOD _ (by rw [hO3]; exact .inl e')).2 rfl⟩
            · exact ⟨by have := (hDs i e).2; omega, fun e' => g3 i e' e⟩
    · obtain rfl : k = xs.length := by omega
      have GG := Lib.hid (And.intro hO1 (And.intro hDs (And.intro hnd hj)))
      clear hO1 hDs hnd hj hR hB hT hY
      go_wp2
      obtain ⟨hO1, hDs, hnd, hj⟩ := GG.out
      refine post_marks_end (Ds := Ds) rfl (fun D hD' => (hDs D hD').1) hnd (fun W' hf => ⟨_, results_none rfl _ _ _, IterEnd.all (O := O1) ?_⟩)
      exact hJ _ _ _ _ hj (hf.mono (fun i hi e => ⟨by have := (hDs i e).2; omega, fun e' => (hO1 i e').2.2.2.2.2 e⟩))
end Go.Proofs.YthnfkjcndidoaaaGreatDoor
