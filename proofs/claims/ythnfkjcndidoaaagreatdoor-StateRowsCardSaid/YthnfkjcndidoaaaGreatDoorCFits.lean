import Derived.Test.YthnfkjcndidoaaaGreatDoorCColl
import Derived.Laws.Rows
set_option linter.unusedVariables false
set_option linter.unusedSimpArgs false
namespace Go.Proofs.YthnfkjcndidoaaaGreatDoor
open Go.RowKit Go.Shelf
attribute [local go_sem] Oper.semAt_some

/-! ### state.fits -/
def addedSum (l : List Pt) (ps : List ByteArray) : Nat := (ps.map fun p => (addedL l p).length).sum
def fitsB (l : List Pt) (ps : List ByteArray) : Bool := decide (l.length ≤ 60) && (decide (ps.length ≤ 6) && decide (addedSum l ps ≤ 40))
theorem addedSum_snoc {l : List Pt} {ps : List ByteArray} {k : Nat} {p : ByteArray} (hp : ps[k]? = some p) : addedSum l (ps.take (k + 1)) = addedSum l (ps.take k) + (addedL l p).length := by
  rw [take_snoc hp]; simp [addedSum]
theorem addedSum_le {l : List Pt} {ps : List ByteArray} {k : Nat} {p : ByteArray} (hp : ps[k]? = some p) : addedSum l (ps.take k) + (addedL l p).length ≤ addedSum l ps := by
  conv => rhs; rw [split_at hp]
  simp only [addedSum, List.map_append, List.map_cons, List.sum_append, List.sum_cons]; omega
theorem results_boxB {fn : Func} {p : Tmp} (h : fn.results = #[.cell p 4]) (tmps : Array Value) (w : World) (g : Nat) (v : Bool)
    (hp : tmps.getD p undef = .pointer (some ⟨g, 0, none⟩)) (hg : Box w g 4 (.bool v)) : (results fn tmps).run Tryz.prog w = .ok (.bool v) w := by
  have c := hg.cell
  have hp' : tmps[p]?.getD undef = .pointer (some ⟨g, 0, none⟩) := by simpa using hp
  simp [results, h, hp', asAddr]
  go_simp
set_option maxHeartbeats 2000000 in
set_option maxRecDepth 100000 in
theorem fits_any {w : World} {A : Option Addr} {c : Nat} {l : List Pt} {Ap : Option Addr} {cp : Nat} {ps : List ByteArray} (h : SlIs rPt w (.slice A l.length c) l) (hps : SlIs rStr w (.slice Ap ps.length cp) ps) (hL : ∀ p ∈ l, lenSum p.hunks ≤ 1000000) :
    Calls Tryz.prog 35 #[.slice A l.length c, .slice Ap ps.length cp] w fun e w' => e = .returned (.bool (fitsB l ps)) ∧ Fr No w w' := by
  have H := Lib.hid h
  have HPS := Lib.hid hps
  have HL := Lib.hid hL
  obtain ⟨_, _, _, _, hb1⟩ := h.form
  obtain ⟨_, _, _, _, hb2⟩ := hps.form
  clear h hps hL
  refine enterM Tryz.func35 rfl ?_
  simp only [Tryz.ntmps35, List.size_toArray, List.length_cons, List.length_nil, Nat.reduceAdd, Nat.reduceSub, Array.replicate_succ, Array.replicate_zero, List.push_toArray, List.append_toArray, List.nil_append, List.cons_append]
  by_cases h60 : l.length ≤ 60
  · by_cases h6 : ps.length ≤ 6
    · go_wp2
      refine namedN (fun W1 hW1 => ?_)
      have br : Box W1 w.heap.size 4 (.bool false) := by rw [hW1]; exact (Box.new _ _ _).old _
      have bn : Box W1 (w.heap.size + 1) 3 (.int .i64 0) := by
        rw [hW1]
        have := Box.new (w.alloc (.cells #[.bool false] 4)) 3 (.int .i64 0)
        rwa [World.size_alloc] at this
      have hfr : Fr No w W1 := by rw [hW1]; exact (Fr.alloc _ _ _).trans (Fr.alloc _ _ _)
      have hsz : W1.heap.size = w.heap.size + 2 := by rw [hW1]; simp
      clear hW1
      have HG := Lib.hid (And.intro h60 h6)
      clear h60 h6
      refine loopK (fun a wr => ∃ (u2 u3 u6 u7 u8 u9 u10 u11 u12 u13 u14 u15 u19 u20 u21 u22 u23 u24 u25 u26 u27 u28 u29 u30 : Value) (k : Nat) (Ds : List Nat), a = { tmps := #[.slice A l.length c, .slice Ap ps.length cp, u2, u3, .pointer (some ⟨w.heap.size, 0, none⟩), .pointer (some ⟨w.heap.size + 1, 0, none⟩), u6, u7, u8, u9, u10, u11, u12, u13, u14, u15, .slice Ap ps.length cp, .int .i64 ps.length, .int .i64 k, u19, u20, u21, u22, u23, u24, u25, u26, u27, u28, u29, u30], defers := marks Ds } ∧ k ≤ ps.length ∧
          (∃ v, Box wr w.heap.size 4 (.bool v)) ∧ Box wr (w.heap.size + 1) 3 (.int .i64 (addedSum l (ps.take k) : Nat)) ∧ addedSum l (ps.take k) ≤ 40 ∧ Fr No w wr ∧ (∀ D, D ∈ Ds → wr.heap[D]? = some (.deferred (some [])) ∧ w.heap.size + 1 < D) ∧ Ds.Nodup)
        (fun a _ => ps.length - (intOf (a.tmps.getD 18 undef)).toNat) ?start ?round
      case start => exact ⟨_, _, _, _, _, _, _, _, _, _, _, _, _, _, _, _, _, _, _, _, _, _, _, _, 0, [], rfl, Nat.zero_le _, ⟨_, br⟩, by simpa [addedSum] using bn, by simp [addedSum], hfr, by simp, by simp⟩
      case round =>
        rintro a wr ⟨u2, u3, u6, u7, u8, u9, u10, u11, u12, u13, u14, u15, u19, u20, u21, u22, u23, u24, u25, u26, u27, u28, u29, u30, k, Ds, rfl, hk, ⟨vr, hr⟩, hn, hs40, hf, hDs, hnd⟩ K hK
        clear br bn hfr
        by_cases hlt : k < ps.length
        · obtain ⟨b, o, p, rfl, hp, k0⟩ := at_str (HPS.out.fr hf) k hlt
          have HH := Lib.hid (And.intro hp (And.intro hr (And.intro hn (And.intro hf (And.intro hDs hnd)))))
          clear hp hr hn hf hDs hnd
          go_wp2_with (go_at_call 60; refine (added_any _ _ _ _ _).mono ?_; rintro e w5 ⟨rfl, rfl⟩)
          refine namedN (fun W3 hW3 => ?_)
          obtain ⟨hp, hr, hn, hf, hDs, hnd⟩ := HH.out
          have b1 : Box W3 wr.heap.size 22 (.slice A l.length c) := by rw [hW3]; exact (Box.new _ _ _).old _
          have b2 : Box W3 (wr.heap.size + 1) 9 (.string p) := by
            rw [hW3]
            have := Box.new (wr.alloc (.cells #[.slice A l.length c] 22)) 9 (.string p)
            rwa [World.size_alloc] at this
          have hf3 : Fr No wr W3 := by rw [hW3]; exact (Fr.alloc _ _ _).trans (Fr.alloc _ _ _)
          have hsz3 : W3.heap.size = wr.heap.size + 2 := by rw [hW3]; simp
          have hn3 := hn.fr hf3 (fun e => e)
          have hr3 := hr.fr hf3 (fun e => e)
          have hnlt := hn.lt
          have hDs3 : ∀ D, D ∈ Ds → W3.heap[D]? = some (.deferred (some [])) := fun D hD => hf3.heap (fun e => e) (hDs D hD).1
          have hDlt : ∀ D, D ∈ Ds → D < wr.heap.size := fun D hD => (Array.getElem?_eq_some_iff.1 (hDs D hD).1).1
          clear hW3 k0
          refine (wpIn_wide (n := 3)).1 (range_outer (added_iter H.out (hf.trans hf3) b1 b2 (by omega) (by omega) HL.out) enters_added1 rfl (fun _ => rfl) (fun i hi => ⟨?_, rfl⟩)
            (fun pre O W => O = (fun i => i = w.heap.size ∨ i = w.heap.size + 1) ∧ (∃ v, Box W w.heap.size 4 (.bool v)) ∧ Box W (w.heap.size + 1) 3 (.int .i64 (addedSum l (ps.take k) + pre.length : Nat)) ∧ addedSum l (ps.take k) + pre.length ≤ 40 ∧ Fr No w W ∧ (∀ D, D ∈ Ds → W.heap[D]? = some (.deferred (some []))))
            (fun cc pre O W => cc = .ret ∧ O = (fun i => i = w.heap.size ∨ i = w.heap.size + 1) ∧ Box W w.heap.size 4 (.bool false) ∧ 40 < addedSum l (ps.take k) + pre.length ∧ Fr No w W ∧ (∀ D, D ∈ Ds → W.heap[D]? = some (.deferred (some []))))
            (fun i => i = w.heap.size ∨ i = w.heap.size + 1) ?hO ?hJ ?hJx ⟨rfl, ⟨_, hr3⟩, by simpa using hn3, by simpa using hs40, hf.trans hf3, hDs3⟩ ?hround ?hdone ?hstop)
          · rcases hi with hi | rfl | rfl
            · omega
            · omega
            · omega
          case hO =>
            rintro i (rfl | rfl)
            · exact ⟨by omega, by omega⟩
            · exact ⟨by omega, by omega⟩
          case hJ =>
            rintro s O A' A'' ⟨rfl, ⟨v, g1⟩, g2, g3, g4, g5⟩ hff
            exact ⟨rfl, ⟨v, g1.fr hff (by omega)⟩, g2.fr hff (by omega), g3, g4.comp hff (fun _ _ e => e) (fun i hi e => by omega), fun D hD => hff.heap (fun e => by have := hDlt D hD; omega) (g5 D hD)⟩
          case hJx =>
            rintro cc s O A' A'' ⟨rfl, rfl, g1, g3, g4, g5⟩ hff
            exact ⟨rfl, rfl, g1.fr hff (by omega), g3, g4.comp hff (fun _ _ e => e) (fun i hi e => by omega), fun D hD => hff.heap (fun e => by have := hDlt D hD; omega) (g5 D hD)⟩
          case hround =>
            rintro lp pre x rest O W hx hl1 hl2 ⟨rfl, ⟨v, g1⟩, g2, g3, g4, g5⟩ hOl
            refine keepK (fun K2 hK2 => ?_)
            simp only [lnArgs]
            gi_wp2
            refine hK2.out _ _ ⟨Fr.refl _ _, ?_⟩
            clear hK2 g1 g2 g3 g4 g5 v
            rintro W5 hf5 _ _ ⟨_, ⟨v, g1⟩, g2, g3, g4, g5⟩
            obtain ⟨q, hq⟩ : ∃ q, q = addedSum l (ps.take k) + pre.length := ⟨_, rfl⟩
            have hq1 : addedSum l (ps.take k) + (pre ++ [x]).length = q + 1 := by simp; omega
            rw [← hq] at g2 g3
            have c2 := g2.cell
            have f2 := g2.frozen
            have c1 := g1.cell
            have f1 := g1.frozen
            have b3 := g2.set (.int .i64 ((q : Int) + 1))
            have b4 := g1.setCell (c := w.heap.size + 1) (i := 0) (.int .i64 ((q : Int) + 1)) (by omega)
            have ff : Fr (fun i => i = w.heap.size ∨ i = w.heap.size + 1) W5 (W5.setCell ⟨w.heap.size + 1, 0, none⟩ (.int .i64 ((q : Int) + 1))) := (Fr.set1 W5 (w.heap.size + 1) 0 _).mono (fun i _ e => .inr e)
            have l1 := g1.lt
            have l2 := g2.lt
            have c3 := b3.cell
            have f4 := b4.frozen
            have HB := Lib.hid (And.intro b3 (And.intro b4 ff))
            have GG := Lib.hid (And.intro g4 (And.intro g5 (And.intro hOl hq1)))
            refine keepQ (fun Q hQ => ?_)
            by_cases hfit : q + 1 ≤ 40
            · have hdec : decide ((40 : Int) < (q : Int) + 1) = false := by simp; omega
              clear g1 g2 g4 g5 hOl b3 b4 ff hq1 hq
              gi_wp2
              obtain ⟨b3, b4, ff⟩ := HB.out
              obtain ⟨g4, g5, hOl, hq1⟩ := GG.out
              refine hQ.out _ _ _ ⟨_, ff, fun i hi => ⟨?_, .inl hi⟩, rfl, ⟨v, b4⟩, ?_, by omega, g4.comp ff (fun _ _ e => e) (fun i hi e => by omega), fun D hD => ff.heap (fun e => by have := hDs D hD; omega) (g5 D hD)⟩
              · rcases hi with rfl | rfl
                · exact b4.lt
                · exact b3.lt
              · rw [hq1]; exact b3
            · have hdec : decide ((40 : Int) < (q : Int) + 1) = true := by simp; omega
              clear g1 g2 g4 g5 hOl b3 b4 ff hq1 hq
              gi_wp2
              obtain ⟨b3, b4, ff⟩ := HB.out
              obtain ⟨g4, g5, hOl, hq1⟩ := GG.out
              have ff2 : Fr (fun i => i = w.heap.size ∨ i = w.heap.size + 1) W5 ((W5.setCell ⟨w.heap.size + 1, 0, none⟩ (.int .i64 ((q : Int) + 1))).setCell ⟨w.heap.size, 0, none⟩ (.bool false)) := ff.trans ((Fr.set1 _ _ 0 _).mono (fun i _ e => .inl e))
              refine hQ.out _ _ _ ⟨_, ff2, fun i hi => ⟨?_, .inl hi⟩, rfl, rfl, b4.set _, by omega, g4.comp ff2 (fun _ _ e => e) (fun i hi e => by omega), fun D hD => ff2.heap (fun e => by have := hDs D hD; omega) (g5 D hD)⟩
              have := ff2.size
              rcases hi with rfl | rfl <;> omega
          case hdone =>
            rintro O W4 hW hD hOD
            obtain ⟨_, ⟨v, g1⟩, g2, g3, g4, g5⟩ := hW W4 (Fr.refl _ _)
            have hDl := (Array.getElem?_eq_some_iff.1 hD).1
            have GG := Lib.hid (And.intro g1 (And.intro g2 (And.intro g3 (And.intro g4 (And.intro g5 (And.intro hD (And.intro hsz3 hDlt)))))))
            clear g1 g2 g3 g4 g5 hD hOD hW hsz3 hDlt hDl
            go_wp2
            obtain ⟨g1, g2, g3, g4, g5, hD, hsz3, hDlt⟩ := GG.out
            refine hK.out _ _ ⟨_, _, _, _, _, _, _, _, _, _, _, _, _, _, _, _, _, _, _, _, _, _, _, _, k + 1, W3.heap.size :: Ds, rfl, by omega, ⟨v, g1⟩, ?_, ?_, g4, fun D hD' => ?_, ?_⟩ (by simp [intOf]; omega)
            · rw [addedSum_snoc hp]; exact g2
            · rw [addedSum_snoc hp]; exact g3
            · rcases List.mem_cons.1 hD' with rfl | hD'
              · exact ⟨hD, by omega⟩
              · exact ⟨g5 D hD', (hDs D hD').2⟩
            · exact List.nodup_cons.2 ⟨fun e => by have := hDlt _ e; omega, hnd⟩
          case hstop =>
            rintro cc pre x rest O W4 hx hW hD hOD
            obtain ⟨rfl, _, g1, g3, g4, g5⟩ := hW W4 (Fr.refl _ _)
            refine wpIn_wide.2 ?_
            have GG := Lib.hid (And.intro hx (And.intro hW (And.intro hD (And.intro g5 (And.intro hsz3 (And.intro hDlt (And.intro hDs (And.intro hp g3))))))))
            clear hx hW hD hOD g1 g3 g4 g5 hsz3 hDlt hDs hp
            go_wp2
            obtain ⟨hx, hW, hD, g5, hsz3, hDlt, hDs, hp, g3⟩ := GG.out
            refine post_marks (Ds := W3.heap.size :: Ds) rfl (fun D hD' => ?_) (List.nodup_cons.2 ⟨fun e => by have := hDlt _ e; omega, hnd⟩) (fun W' hff => ?_)
            · rcases List.mem_cons.1 hD' with rfl | hD'
              · exact hD
              · exact g5 D hD'
            · obtain ⟨_, _, g1, _, g4, _⟩ := hW W4 (Fr.refl _ _)
              have g1' := g1.fr hff (fun e => by
                rcases List.mem_cons.1 e with e | e
                · omega
                · have := (hDs _ e).2; omega)
              refine ⟨_, results_boxB rfl _ _ w.heap.size false rfl g1', ?_, g4.comp hff (fun _ _ e => e) (fun i hi e => ?_)⟩
              · have h1 := addedSum_le (l := l) hp
                have h2 := congrArg List.length hx
                simp at h2 g3
                have : ¬ addedSum l ps ≤ 40 := by omega
                simp [fitsB, this]
              · rcases List.mem_cons.1 e with e | e
                · omega
                · have := (hDs _ e).2; omega
        · obtain rfl : k = ps.length := by omega
          have cr := hr.cell
          have fr' := hr.frozen
          have GG := Lib.hid (And.intro hr (And.intro hf (And.intro hDs hnd)))
          clear hr hn hf hDs hnd
          go_wp2
          obtain ⟨hr, hf, hDs, hnd⟩ := GG.out
          have hlr := hr.lt
          refine post_marks_end (Ds := Ds) rfl (fun D hD' => ?_) hnd (fun W' hff => ⟨_, results_boxB rfl _ _ w.heap.size true rfl ((hr.set _).fr hff (fun e => by have := (hDs _ e).2; omega)), ?_, ?_⟩)
          · exact (Fr.set1 wr w.heap.size 0 (.bool true)).heap (fun e => by have e : D = w.heap.size := e; have := (hDs D hD').2; omega) (hDs D hD').1
          · rw [List.take_length] at hs40
            simp [fitsB, HG.out.1, HG.out.2, hs40]
          · exact (hf.comp (Fr.set1 wr w.heap.size 0 (.bool true)) (fun _ _ e => e) (fun i hi e => by have e : i = w.heap.size := e; omega)).comp hff (fun _ _ e => e) (fun i hi e => by have := (hDs _ e).2; omega)
    · go_wp2
      refine post_marks (Ds := []) rfl (by simp) (by simp) (fun W' hf => ⟨_, results_boxB rfl _ _ w.heap.size false rfl ((Box.new _ _ _).fr hf (by simp)), ?_, (Fr.alloc _ _ _).trans (hf.mono (fun i _ e => by simp at e))⟩)
      simp [fitsB, h6]
  · go_wp2
    refine post_marks (Ds := []) rfl (by simp) (by simp) (fun W' hf => ⟨_, results_boxB rfl _ _ w.heap.size false rfl ((Box.new _ _ _).fr hf (by simp)), ?_, (Fr.alloc _ _ _).trans (hf.mono (fun i _ e => by simp at e))⟩)
    simp [fitsB, h60]
end Go.Proofs.YthnfkjcndidoaaaGreatDoor
