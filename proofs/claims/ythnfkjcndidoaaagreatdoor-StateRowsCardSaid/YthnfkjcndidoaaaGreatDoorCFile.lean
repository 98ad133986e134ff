import Derived.Test.YthnfkjcndidoaaaGreatDoorCFileA
import Derived.Test.YthnfkjcndidoaaaGreatDoorShelf
set_option linter.unusedVariables false
set_option linter.unusedSimpArgs false
namespace Go.Proofs.YthnfkjcndidoaaaGreatDoor
open Go.RowKit Go.Shelf
attribute [local go_sem] Oper.semAt_some
theorem namedC {P : Program} {f : FuncId} {args : Array Value} {W : World} {R : Ending → World → Prop} (h : ∀ W', W' = W → Calls P f args W' R) : Calls P f args W R := h W rfl
theorem OwnLn.form {w : World} {base : Nat} {v : Value} {xs : List Ln} (h : OwnLn w base v xs) : ∃ A c, v = .slice A xs.length c ∧ xs.length ≤ c := by
  rcases h.cases with ⟨rfl, rfl⟩ | ⟨g, cap, cur, rfl, _, _, _, h1, _⟩
  · exact ⟨none, 0, rfl, Nat.le_refl _⟩
  · exact ⟨_, _, rfl, h1⟩
theorem own_form {w : World} {base : Nat} {e : TypeId} {size : Nat} {v : Value} {n : Nat} {xs : List Value} (h : w.ownsRow base e size v n xs) : ∃ A c, v = .slice A n c ∧ n ≤ c := by
  rcases h.2 with ⟨rfl, rfl⟩ | ⟨g, cap, cur, rfl, _, _, h1, _⟩
  · exact ⟨none, 0, rfl, Nat.le_refl _⟩
  · exact ⟨_, _, rfl, h1⟩
theorem OwnLn.at {w : World} {base : Nat} {A : Option Addr} {n c : Nat} {xs : List Ln} (h : OwnLn w base (.slice A n c) xs) (k : Nat) (hk : k < xs.length) : ∃ g x, A = some ⟨g, 0, none⟩ ∧ xs[k]? = some x ∧
    w.cell? ⟨g, k * 4, none⟩ = some (.int .u32 x.id.p) ∧ w.cell? ⟨g, k * 4 + 1, none⟩ = some (.int .i64 x.id.n) ∧ w.cell? ⟨g, k * 4 + 2, none⟩ = some (.string x.text) ∧ w.cell? ⟨g, k * 4 + 3, none⟩ = some (.bool x.dead) ∧ w.frozen? ⟨g, k * 4 + 3, none⟩ = false := by
  rcases h.cases with ⟨_, rfl⟩ | ⟨g, cap, cur, e, _, _, hh, h1, h2, h3, h4⟩
  · simp at hk
  · cases e
    have hc : ∀ j, j < 4 → w.cell? ⟨g, k * 4 + j, none⟩ = (lnCell xs[k])[j]? := fun j hj => by
      rw [cell_of_heap hh]
      have h5 : (cur.toList.take (xs.length * 4))[k * 4 + j]? = (lnCells xs)[k * 4 + j]? := by rw [h4]
      rw [List.getElem?_take_of_lt (by omega), Array.getElem?_toList] at h5
      rw [h5, lnCells, flat_get lnCell 4 (by decide) lnCell_len, show (k * 4 + j) / 4 = k by omega, show (k * 4 + j) % 4 = j by omega, List.getElem?_eq_getElem hk]
      rfl
    exact ⟨g, xs[k], rfl, List.getElem?_eq_getElem hk, hc 0 (by decide), hc 1 (by decide), hc 2 (by decide), hc 3 (by decide), frozen_of_heap hh _⟩
set_option maxHeartbeats 4000000 in
set_option maxRecDepth 100000 in
theorem file_any {w : World} {A : Option Addr} {c : Nat} {l : List Pt} (h : SlIs rPt w (.slice A l.length c) l) (hT : Tab w) (path : ByteArray) (hL : ∀ p ∈ l, lenSum p.hunks ≤ 1000000) (hne : l ≠ []) (hn : (addedL l path).length ≤ 40) (hnd : ((addedL l path).map (·.id)).Nodup) :
    Calls Tryz.prog 36 #[.slice A l.length c, .string path] w fun e w' => ∃ (ys : List Ln) (vl vp : Value), e = .returned (.agg #[.string path, vl, vp]) ∧ ys.Perm (addedL l path) ∧ ys.Pairwise (fun x y => 0 ≤ cmpL y.id x.id) ∧
      OwnLn w' w.heap.size vl (deadBy ys (killsOf l (hunkIdx l path))) ∧ w'.ownsRow w.heap.size 84 2 vp (relPairsL (closeM (addAll ys (edgesOf l (hunkIdx l path))))).length (pairCells (relPairsL (closeM (addAll ys (edgesOf l (hunkIdx l path)))))) ∧ Fr No w w' := by
  obtain ⟨b, o, _, _, _, _, _, _, _, _, _, rfl, _⟩ := at_pt h 0 (List.length_pos_iff.2 hne)
  have H := Lib.hid h
  have HT := Lib.hid hT
  have HL := Lib.hid hL
  have HN := Lib.hid (And.intro hn hnd)
  obtain ⟨_, _, _, _, hb1⟩ := h.form
  clear h hT hL hn hnd hne
  have hmm := @run_makeMap Tryz.prog
  refine enterM Tryz.func36 rfl ?_
  simp only [Tryz.ntmps36, List.size_toArray, List.length_cons, List.length_nil, Nat.reduceAdd, Nat.reduceSub, Array.replicate_succ, Array.replicate_zero, List.push_toArray, List.append_toArray, List.nil_append, List.cons_append]
  go_wp2_with (first | (go_at_call 60; refine (added_any _ _ _ _ _).mono ?_; rintro e w' ⟨rfl, rfl⟩) | (go_at_call 61; refine stopAt ?_))
  refine Hid.go (namedC (fun W1 hW1 => ?_))
  have hsz1 : W1.heap.size = w.heap.size + 3 := by rw [hW1]; simp
  have hf1 : Fr No w W1 := by rw [hW1]; exact ((Fr.alloc _ _ _).trans (Fr.alloc _ _ _)).trans (Fr.alloc _ _ _)
  have hR1 : W1.heap[w.heap.size]? = some (.cells #[.string ⟨#[]⟩, .slice none 0 0, .slice none 0 0] 32 (0, 0)) := by
    rw [hW1]
    exact ((Fr.alloc No _ _).trans (Fr.alloc No _ _)).heap (fun e => e) (heap_last w (.cells #[.string ⟨#[]⟩, .slice none 0 0, .slice none 0 0] 32))
  have hB1 : Box W1 (w.heap.size + 1) 22 (.slice (some ⟨b, o, none⟩) l.length c) := by
    rw [hW1]
    have := (Box.new (w.alloc (.cells #[.string ⟨#[]⟩, .slice none 0 0, .slice none 0 0] 32)) 22 (.slice (some ⟨b, o, none⟩) l.length c)).old (.cells #[.string path] 9)
    rwa [World.size_alloc] at this
  have hB2 : Box W1 (w.heap.size + 1 + 1) 9 (.string path) := by
    rw [hW1]
    have := Box.new ((w.alloc (.cells #[.string ⟨#[]⟩, .slice none 0 0, .slice none 0 0] 32)).alloc (.cells #[.slice (some ⟨b, o, none⟩) l.length c] 22)) 9 (.string path)
    rwa [World.size_alloc, World.size_alloc] at this
  clear hW1
  refine (collectLn (added_iter H.out hf1 hB1 hB2 (by omega) (by omega) HL.out) enters_added1 (fun i hi => ⟨by omega, rfl⟩) (by have := HN.out.1; omega)).mono ?_
  rintro e W2 ⟨vl, rfl, hown, hf2⟩
  have hs2 := hf2.size
  have hown2 : OwnLn W2 w.heap.size vl (addedL l path) := own_lower hown (by omega)
  obtain ⟨Al, cl, rfl, hcl⟩ := hown2.form
  have hR2 := hf2.heap (fun e => e) hR1
  have hO2 : ∀ i, OwnO (.slice Al (addedL l path).length cl) i → w.heap.size < i ∧ i < W2.heap.size := fun i hi => ⟨by have := (own_block hown hi).1; omega, (own_block hown2 hi).2.1⟩
  have H2 := Lib.hid (And.intro (hf1.trans hf2) (And.intro hown2 (And.intro hR2 (And.intro hO2 (show w.heap.size < W2.heap.size by omega)))))
  clear hown hown2 hR1 hR2 hO2 hB1 hB2 hf1 hf2 hsz1 hs2
  go_wp2_with (go_at_call 62; refine stopAt ?_)
  refine Hid.go (namedC (fun W3 hW3 => ?_))
  obtain ⟨hf2, hown2, hR2, hO2, hlt2⟩ := H2.out
  have hf23 : Fr No W2 W3 := by rw [hW3]; exact Fr.alloc _ _ _
  have hs3 : W3.heap.size = W2.heap.size + 1 := by rw [hW3]; simp
  have hF3 : W3.heap[W2.heap.size]? = some (.cells #[.string path, .slice Al (addedL l path).length cl, .slice none 0 0] 32 (0, 0)) := by rw [hW3]; exact heap_last _ _
  clear hW3
  refine (sortLn Tryz.lSortLn rfl rfl (own_fr hown2 hf23 (fun _ _ e => e)) (by have := HN.out.1; omega)).mono ?_
  rintro e W4 ⟨rfl, ys, hown4, hperm, hsort, hf4⟩
  have hlen : (addedL l path).length = ys.length := hperm.length_eq.symm
  rw [hlen] at hO2 hown4 hF3 hf4 ⊢
  have hR4 := hf4.heap (fun e => by have := (hO2 _ e).1; omega) (hf23.heap (fun e => e) hR2)
  have hF4 := hf4.heap (fun e => by have := (hO2 _ e).2; omega) hF3
  have hnd : (ys.map (·.id)).Nodup := (hperm.map _).nodup_iff.2 HN.out.2
  have hle : ys.length ≤ 40 := by have := HN.out.1; omega
  have hs4 := hf4.size
  have hfw4 : Fr No w W4 := (hf2.trans hf23).comp hf4 (fun _ _ e => e) (fun i hi e => by have := (hO2 i e).1; omega)
  have c5 := cell_of_heap (((Fr.alloc No W4 (.map #[] 0)).trans (Fr.alloc No _ (.cells #[.map (some W4.heap.size)] 106))).heap (fun e => e) hF4) 1
  obtain ⟨b5, hb5⟩ : ∃ b5, b5 = W2.heap.size := ⟨_, rfl⟩
  rw [← hb5] at c5 hF4 ⊢
  have H4 := Lib.hid (And.intro hfw4 (And.intro hown4 (And.intro hR4 (And.intro hF4 (And.intro hnd (And.intro hsort (And.intro hperm (show (∀ i, OwnO (.slice Al ys.length cl) i → w.heap.size < i ∧ i < b5) ∧ w.heap.size < b5 ∧ b5 < W4.heap.size from ⟨fun i hi => by have := hO2 i hi; omega, by omega, by omega⟩))))))))
  clear hf2 hown2 hR2 hO2 hf23 hF3 hown4 hperm hsort hf4 hlen hR4 hF4 hnd hfw4 hcl H2 hs4 hs3 hlt2 hb5
  go_wp2
  refine namedN (fun W5 hW5 => ?_)
  obtain ⟨hfw4, hown4, hR4, hF4, hnd, hsort, hperm, hO2, hw5, h54⟩ := H4.out
  have hf45 : Fr No W4 W5 := by rw [hW5]; exact (Fr.alloc _ _ _).trans (Fr.alloc _ _ _)
  have hM5 : MpIs encL encI W5 W4.heap.size (fun _ => none) := by rw [hW5]; exact (MpIs.made W4).fr (Fr.alloc No _ _) (fun e => e)
  have hB6 : Box W5 (W4.heap.size + 1) 106 (.map (some W4.heap.size)) := by
    rw [hW5]
    have := Box.new (W4.alloc (.map #[] 0)) 106 (.map (some W4.heap.size))
    rwa [World.size_alloc] at this
  have H5 := Lib.hid (And.intro hM5 (And.intro hB6 (And.intro (own_fr hown4 hf45 (fun _ _ e => e)) (And.intro (hf45.heap (fun e => e) hR4) (And.intro (hf45.heap (fun e => e) hF4) (hfw4.trans hf45))))))
  have HP := Lib.hid (And.intro hnd (And.intro hsort (And.intro hperm (And.intro hO2 (And.intro hw5 h54)))))
  obtain ⟨bm, hbm⟩ : ∃ bm, bm = W4.heap.size := ⟨_, rfl⟩
  rw [← hbm] at H5 h54 HP ⊢
  clear hfw4 hown4 hR4 hF4 hnd hsort hperm hO2 hw5 h54 hf45 hM5 hB6 hW5 H4 hbm c5
  go_loopw [35] (fun i wr => ∃ k : Nat, i = .int .i64 k ∧ k ≤ ys.length ∧ Hid (MpIs encL encI wr bm (mapLn ys k) ∧ Box wr (bm + 1) 106 (.map (some bm)) ∧ OwnLn wr w.heap.size (.slice Al ys.length cl) ys ∧ wr.heap[w.heap.size]? = some (.cells #[.string ⟨#[]⟩, .slice none 0 0, .slice none 0 0] 32 (0, 0)) ∧ wr.heap[b5]? = some (.cells #[.string path, .slice Al ys.length cl, .slice none 0 0] 32 (0, 0)) ∧ Fr No w wr)) (fun i _ => ys.length - (intOf i).toNat)
  case atStart => exact ⟨0, rfl, Nat.zero_le _, by rw [mapLn_zero]; exact H5⟩
  case round =>
    clear H5
    obtain ⟨k, rfl, hk, hS⟩ := hrel
    by_cases hlt : k < ys.length
    · obtain ⟨hM, hB, hown, hR, hF, hfw⟩ := hS.out
      obtain ⟨g, x, rfl, hx, k0, k1, k2, k3, _⟩ := hown.at k hlt
      have hal : Fr No wr (wr.alloc (.cells #[.int .u32 x.id.p, .int .i64 x.id.n, .string x.text, .bool x.dead] 47)) := Fr.alloc _ _ _
      have cB := (hB.fr hal (fun e => e)).cell
      have HX := Lib.hid hx
      clear hM hB hown hR hF hfw hx hal
      go_wp2_with (at_mapUpdate; refine mpStore rfl _ _ _ _ rfl _ _ keyL encI_inj Tryz.underlying106 bm _ rfl (hS.out.1.fr (Fr.alloc No _ _) (fun e => e)) x.id rfl k rfl ?_; intro w2 hm2 hf2; clear k0 k1 k2 k3 cB)
      go_roundw
      case rel =>
        obtain ⟨hM, hB, hown, hR, hF, hfw⟩ := hS.out
        obtain ⟨hnd, hsort, hperm, hO2, hw5, h54⟩ := HP.out
        have hal : Fr No wr (wr.alloc (.cells #[.int .u32 x.id.p, .int .i64 x.id.n, .string x.text, .bool x.dead] 47)) := Fr.alloc _ _ _
        have hff := hal.comp hf2 (T := One bm) (fun _ _ e => e.elim) (fun _ _ e => e)
        refine ⟨k + 1, by go_num, by omega, Lib.hid ⟨hm2.congr (mapLn_succ hnd HX.out), hB.fr hff (fun e => by have e : bm + 1 = bm := e; omega), own_fr hown hff (fun i hi e => by have e : i = bm := e; have := hO2 i hi; omega), hff.heap (fun e => by have e : w.heap.size = bm := e; omega) hR, hff.heap (fun e => by have e : b5 = bm := e; omega) hF, hfw.comp hff (fun _ _ e => e) (fun i hi e => by have e : i = bm := e; omega)⟩⟩
      case measure => simp [intOf]; omega
    · obtain rfl : k = ys.length := by omega
      have hS2 : Hid (MpIs encL encI wr bm (idxOf ys) ∧ Box wr (bm + 1) 106 (.map (some bm)) ∧ OwnLn wr w.heap.size (.slice Al ys.length cl) ys ∧ wr.heap[w.heap.size]? = some (.cells #[.string ⟨#[]⟩, .slice none 0 0, .slice none 0 0] 32 (0, 0)) ∧ wr.heap[b5]? = some (.cells #[.string path, .slice Al ys.length cl, .slice none 0 0] 32 (0, 0)) ∧ Fr No w wr) := by
        have := hS
        rwa [show mapLn ys ys.length = idxOf ys from by funext id; simp [mapLn]] at this
      have c5 := cell_of_heap hS.out.2.2.2.2.1 1
      clear hS
      go_wp2_with (first | (go_at_call 65; refine (relNew ys.length (by omega)).mono ?_; rintro e W6 ⟨br, ba, bs, rfl, hrel, hrb, hf6⟩) | (go_at_call 66; refine (hunks_any _ _ _ _ _).mono ?_; rintro e w' ⟨rfl, rfl⟩))
      refine namedN (fun W7 hW7 => ?_)
      obtain ⟨hM, hB, hown, hR, hF, hfw⟩ := hS2.out
      obtain ⟨hnd, hsort, hperm, hO2, hw5, h54⟩ := HP.out
      have hf67 : Fr No W6 W7 := by rw [hW7]; exact ((Fr.alloc _ _ _).trans (Fr.alloc _ _ _)).trans (Fr.alloc _ _ _)
      have hs7 : W7.heap.size = W6.heap.size + 3 := by rw [hW7]; simp
      have hB9 : Box W7 W6.heap.size 107 (.pointer (some ⟨br, 0, none⟩)) := by rw [hW7]; exact ((Box.new _ _ _).old _).old _
      have hX1 : Box W7 (W6.heap.size + 1) 22 (.slice (some ⟨b, o, none⟩) l.length c) := by
        rw [hW7]
        have := (Box.new (W6.alloc (.cells #[.pointer (some ⟨br, 0, none⟩)] 107)) 22 (.slice (some ⟨b, o, none⟩) l.length c)).old (.cells #[.string path] 9)
        rwa [World.size_alloc] at this
      have hX2 : Box W7 (W6.heap.size + 1 + 1) 9 (.string path) := by
        rw [hW7]
        have := Box.new ((W6.alloc (.cells #[.pointer (some ⟨br, 0, none⟩)] 107)).alloc (.cells #[.slice (some ⟨b, o, none⟩) l.length c] 22)) 9 (.string path)
        rwa [World.size_alloc, World.size_alloc] at this
      have hf07 := hf6.trans hf67
      have hs6 := hf6.size
      have hlB := hB.lt
      have hrl := hrel.lt
      have hst : FileSt w path (.slice Al ys.length cl) b5 (bm + 1) W6.heap.size bm br ba bs ys W7 [] [] :=
        ⟨by rw [deadBy_nil]; exact own_fr hown hf07 (fun _ _ e => e), hrel.fr hf67 (fun _ _ e => e), hf07.heap (fun e => e) hF, hM.fr hf07 (fun e => e), hB.fr hf07 (fun e => e), hB9, hfw.trans hf07, hnd, fun i hi => by have := hO2 i hi; omega, fun i hi => by have := hrb i hi; have := hrl i hi; omega, hw5, h54, by omega, by omega⟩
      have hR7 := hf07.heap (fun e => e) hR
      have HT7 := Lib.hid (HT.out.fr (hfw.trans hf07) (fun e => e))
      have HS := Lib.hid (And.intro hsort hperm)
      clear hM hB hown hR hF hnd hsort hperm hO2 hf67 hB9 hrel hrb hf6 hW7 hS2 HP hrl c5
      have hfw7 := hst.fr
      refine (wpIn_wide (n := 3)).1 (range_outer (hunks_iter H.out hfw7 hX1 hX2 (by omega) (by omega)) enters_hunks1 rfl (fun _ => rfl) (fun i hi => ⟨?_, rfl⟩)
        (fun pre O W => O = FileO (.slice Al ys.length cl) br ba bs ∧ FileSt w path (.slice Al ys.length cl) b5 (bm + 1) W6.heap.size bm br ba bs ys W (killsOf l pre) (edgesOf l pre) ∧ W.heap[w.heap.size]? = some (.cells #[.string ⟨#[]⟩, .slice none 0 0, .slice none 0 0] 32 (0, 0)))
        (fun _ _ _ _ => False) (FileO (.slice Al ys.length cl) br ba bs) ?hO ?hJ (fun _ _ _ _ _ h _ => h) ⟨rfl, hst, hR7⟩ ?hround ?hdone (fun _ _ _ _ _ _ _ h _ _ => (h _ (Fr.refl _ _)).elim))
      · rcases hi with hi | rfl | rfl
        · omega
        · omega
        · omega
      case hO =>
        intro i hi
        have q3 := hst.p3; have q4 := hst.p4; have q5 := hst.p5; have q6 := hst.p6
        rcases hi with hi | hi
        · have := hst.p1 i hi
          exact ⟨by omega, by omega⟩
        · have := hst.p2 i hi
          exact ⟨by omega, by omega⟩
      case hJ =>
        rintro s O A A' ⟨rfl, g1, g2⟩ hf
        have q3 := g1.p3; have q4 := g1.p4; have q5 := g1.p5; have q6 := g1.p6
        exact ⟨rfl, g1.keep hf (fun i hi e => e.2 (.inl hi)) (fun i hi e => e.2 (.inr hi)) ⟨fun e => by omega, fun e => by omega, fun e => by omega, fun e => by omega⟩ (fun i e => by omega), hf.heap (fun e => by omega) g2⟩
      case hround =>
        rintro lp pre ⟨i, j⟩ rest O W hx hl1 hl2 ⟨rfl, g1, g2⟩ hOl
        obtain ⟨x, y, hxi, hyj, hyp⟩ := mem_hunkIdx.1 (show (i, j) ∈ hunkIdx l path by rw [hx]; simp)
        have hik : i < l.length := (List.getElem?_eq_some_iff.1 hxi).1
        have hjk : j < x.hunks.length := (List.getElem?_eq_some_iff.1 hyj).1
        obtain ⟨bx, ox, x', Ad, cd, Am, cm, Ar, cr, Ah, ch, hbo, hx', q0, q1, q2, q3, q4, hp⟩ := at_pt H.out i hik
        obtain ⟨rfl, rfl⟩ : b = bx ∧ o = ox := by simpa using hbo
        obtain rfl : x' = x := by rw [hxi] at hx'; exact (Option.some.inj hx').symm
        obtain ⟨b', o', y', Aa, ca, Ae, ce, Ak, ck, rfl, hy', r0, r1, r2, r3, hya, hye, hyk⟩ := at_hk hp.hunks j hjk
        obtain rfl : y' = y := by rw [hyj] at hy'; exact (Option.some.inj hy').symm
        have hargs : hkArgs w b o (i, j) = #[.int .u32 x'.id, .agg #[.string y'.path, .slice Aa y'.adds.length ca, .slice Ae y'.edges.length ce, .slice Ak y'.kills.length ck]] := by
          unfold hkArgs
          simp only []
          rw [hkCell_eq q4 (by simpa using r0), hkCell_eq q4 r1, hkCell_eq q4 r2, hkCell_eq q4 r3, q0]
          rfl
        have hhk : hkOf l (i, j) = y' := by simp [hkOf, hxi, hyj]
        have HE := Lib.hid (And.intro hye hyk)
        obtain ⟨_, _, _, _, hbe⟩ := hye.form
        obtain ⟨_, _, _, _, hbk⟩ := hyk.form
        have HHK := Lib.hid hhk
        clear hbo hx' hy' q0 q1 q2 q3 q4 r0 r1 r2 r3 hya hye hyk hp hhk hxi hyj hyp hik hjk
        refine keepK (fun K hK => ?_)
        rw [hargs]
        clear hargs
        gi_wp2
        refine hK.out _ _ ⟨Fr.alloc _ _ _, ?_⟩
        clear hK g1 g2
        rintro W2 hf2 _ _ ⟨_, g1, g2⟩
        have hbox := hf2.heap (i := W.heap.size) (fun e => by omega) (heap_last W (.cells #[.string y'.path, .slice Aa y'.adds.length ca, .slice Ae y'.edges.length ce, .slice Ak y'.kills.length ck] 57))
        obtain ⟨bh, hbh⟩ : ∃ bh, bh = W.heap.size := ⟨_, rfl⟩
        have hbhO : ¬ FileO (.slice Al ys.length cl) br ba bs bh := fun e => by have := (hOl _ e).1; omega
        rw [← hbh] at hbox ⊢
        have c3 := cell_of_heap hbox 3
        refine keepQ (fun Q hQ => ?_)
        have HJ := Lib.hid (And.intro g1 (And.intro g2 (And.intro hbox hbhO)))
        have HW2 := Lib.hid hOl
        clear g1 g2 hbox hbhO hbh hOl hf2 hst hR7 hfw7
        gi_wp2
        clear c3
        gi_loopw [57] (fun i wq => ∃ m : Nat, i = .int .i64 m ∧ m ≤ y'.kills.length ∧ Hid (FileSt w path (.slice Al ys.length cl) b5 (bm + 1) W6.heap.size bm br ba bs ys wq (killsOf l pre ++ y'.kills.take m) (edgesOf l pre) ∧ wq.heap[bh]? = some (.cells #[.string y'.path, .slice Aa y'.adds.length ca, .slice Ae y'.edges.length ce, .slice Ak y'.kills.length ck] 57 (0, 0)) ∧ Fr (FileO (.slice Al ys.length cl) br ba bs) W2 wq)) (fun i _ => y'.kills.length - (intOf i).toNat)
        case atStart => exact ⟨0, rfl, Nat.zero_le _, Lib.hid ⟨by simpa using HJ.out.1, HJ.out.2.2.1, Fr.refl _ _⟩⟩
        case round =>
          obtain ⟨m, rfl, hm, hS⟩ := hrel
          by_cases hlt : m < y'.kills.length
          · obtain ⟨b3, o3, k, rfl, hk, q0, q1⟩ := at_lid HE.out.2 m hlt
            have hcm := hS.out.1.fr.cm
            have k0 := hcm _ _ _ q0
            have k1 := hcm _ _ _ q1
            have hal : Fr No wr (wr.alloc (.cells #[.int .u32 k.p, .int .i64 k.n] 45)) := Fr.alloc _ _ _
            have hst2 := hS.out.1.alloc (.cells #[.int .u32 k.p, .int .i64 k.n] 45)
            have cB := hst2.hb6.cell
            have c5 := cell_of_heap hst2.file 1
            have HK := Lib.hid hk
            have HS2 := Lib.hid (And.intro hst2 (And.intro (hal.heap (fun e => e) hS.out.2.1) (hS.out.2.2.trans hal.of_no)))
            clear hcm q0 q1 hk hst2 hal
            cases hi : idxOf ys k with
            | none =>
              have HI := Lib.hid hi
              clear hi
              gi_wp2_with (gi_at_lookup; refine mpLook2In rfl _ _ _ rfl _ _ keyL encI_inj Tryz.underlying106 0 (zeroI _) bm _ rfl HS2.out.1.map k rfl (.int .i64 0) (by rw [HI.out]; rfl) false (by rw [HI.out]; rfl) ?_; clear k0 k1)
              refine ⟨⟨m + 1, by go_num, by omega, ?_⟩, by simp [intOf]; omega⟩
              obtain ⟨j1, j2, j3⟩ := HS2.out
              refine Lib.hid ⟨?_, j2, j3⟩
              rw [take_snoc HK.out, ← List.append_assoc]
              exact j1.stay HI.out
            | some n =>
              have HI := Lib.hid hi
              have hil : n < ys.length := by
                obtain ⟨x, hx, _⟩ := (idxOf_some HS2.out.1.nd).1 hi
                exact (List.getElem?_eq_some_iff.1 hx).1
              obtain ⟨g, xx, hA, _, _, _, _, cd, fd⟩ := HS2.out.1.own.at n (by rw [deadBy_len]; exact hil)
              clear hi
              subst hA
              gi_wp2_with (gi_at_lookup; refine mpLook2In rfl _ _ _ rfl _ _ keyL encI_inj Tryz.underlying106 0 (zeroI _) bm _ rfl HS2.out.1.map k rfl (.int .i64 n) (by rw [HI.out]; rfl) true (by rw [HI.out]; rfl) ?_; clear k0 k1)
              refine ⟨⟨m + 1, by go_num, by omega, ?_⟩, by simp [intOf]; omega⟩
              obtain ⟨j1, j2, j3⟩ := HS2.out
              refine Lib.hid ⟨?_, ?_, ?_⟩
              · rw [take_snoc HK.out, ← List.append_assoc]
                exact j1.kill HI.out rfl
              · exact (Fr.set1 _ g (n * 4 + 3) (.bool true)).heap (fun e => HJ.out.2.2.2 (.inl (ownO_slice.2 (show bh = g from e).symm))) j2
              · exact j3.trans ((Fr.set1 _ g (n * 4 + 3) (.bool true)).mono (fun i _ e => .inl (ownO_slice.2 (show i = g from e).symm)))
          · have c2 := cell_of_heap hS.out.2.1 2
            rw [List.take_of_length_le (by omega)] at hS
            gi_wp2
            clear c2 hlt hm
            have hS0 := hS
            clear hS
            gi_loopw [77] (fun i wq => ∃ m : Nat, i = .int .i64 m ∧ m ≤ y'.edges.length ∧ Hid (FileSt w path (.slice Al ys.length cl) b5 (bm + 1) W6.heap.size bm br ba bs ys wq (killsOf l pre ++ y'.kills) (edgesOf l pre ++ y'.edges.take m) ∧ wq.heap[bh]? = some (.cells #[.string y'.path, .slice Aa y'.adds.length ca, .slice Ae y'.edges.length ce, .slice Ak y'.kills.length ck] 57 (0, 0)) ∧ Fr (FileO (.slice Al ys.length cl) br ba bs) W2 wq)) (fun i _ => y'.edges.length - (intOf i).toNat)
            case atStart => exact ⟨0, rfl, Nat.zero_le _, by simpa using hS0⟩
            case round =>
              clear hS0
              obtain ⟨m, rfl, hm, hS⟩ := hrel
              by_cases hlt : m < y'.edges.length
              · obtain ⟨b3, o3, e, rfl, hk, q0, q1, q2, q3⟩ := at_edg HE.out.1 m hlt
                have hcm := hS.out.1.fr.cm
                have k0 := hcm _ _ _ q0
                have k1 := hcm _ _ _ q1
                have k2 := hcm _ _ _ q2
                have k3 := hcm _ _ _ q3
                have hal : Fr No wr (wr.alloc (.cells #[.int .u32 e.a.p, .int .i64 e.a.n, .int .u32 e.b.p, .int .i64 e.b.n] 59)) := Fr.alloc _ _ _
                have hst2 := hS.out.1.alloc (.cells #[.int .u32 e.a.p, .int .i64 e.a.n, .int .u32 e.b.p, .int .i64 e.b.n] 59)
                have cB := hst2.hb6.cell
                have c9 := hst2.hb9.cell
                have HK := Lib.hid hk
                have HS2 := Lib.hid (And.intro hst2 (And.intro (hal.heap (fun e => e) hS.out.2.1) (hS.out.2.2.trans hal.of_no)))
                clear hcm q0 q1 q2 q3 hk hst2 hal
                cases hi : idxOf ys e.a with
                | none =>
                  have HI := Lib.hid hi
                  clear hi
                  cases hi2 : idxOf ys e.b with
                  | none =>
                    have HI2 := Lib.hid hi2
                    clear hi2
                    gi_wp2_with (gi_at_lookup; first | (refine mpLook2In rfl _ _ _ rfl _ _ keyL encI_inj Tryz.underlying106 0 (zeroI _) bm _ rfl HS2.out.1.map e.a rfl (.int .i64 0) (by rw [HI.out]; rfl) false (by rw [HI.out]; rfl) ?_) | (refine mpLook2In rfl _ _ _ rfl _ _ keyL encI_inj Tryz.underlying106 0 (zeroI _) bm _ rfl HS2.out.1.map e.b rfl (.int .i64 0) (by rw [HI2.out]; rfl) false (by rw [HI2.out]; rfl) ?_))
                    refine ⟨⟨m + 1, by go_num, by omega, ?_⟩, by simp [intOf]; omega⟩
                    obtain ⟨j1, j2, j3⟩ := HS2.out
                    refine Lib.hid ⟨?_, j2, j3⟩
                    rw [take_snoc HK.out, ← List.append_assoc]
                    exact { j1 with rel := by rw [addAll_snoc, edgeStep, HI.out, HI2.out]; exact j1.rel }
                  | some n2 =>
                    have HI2 := Lib.hid hi2
                    clear hi2
                    gi_wp2_with (gi_at_lookup; first | (refine mpLook2In rfl _ _ _ rfl _ _ keyL encI_inj Tryz.underlying106 0 (zeroI _) bm _ rfl HS2.out.1.map e.a rfl (.int .i64 0) (by rw [HI.out]; rfl) false (by rw [HI.out]; rfl) ?_) | (refine mpLook2In rfl _ _ _ rfl _ _ keyL encI_inj Tryz.underlying106 0 (zeroI _) bm _ rfl HS2.out.1.map e.b rfl (.int .i64 n2) (by rw [HI2.out]; rfl) true (by rw [HI2.out]; rfl) ?_))
                    refine ⟨⟨m + 1, by go_num, by omega, ?_⟩, by simp [intOf]; omega⟩
                    obtain ⟨j1, j2, j3⟩ := HS2.out
                    refine Lib.hid ⟨?_, j2, j3⟩
                    rw [take_snoc HK.out, ← List.append_assoc]
                    exact { j1 with rel := by rw [addAll_snoc, edgeStep, HI.out, HI2.out]; exact j1.rel }
                | some n =>
                  have HI := Lib.hid hi
                  clear hi
                  cases hi2 : idxOf ys e.b with
                  | none =>
                    have HI2 := Lib.hid hi2
                    clear hi2
                    gi_wp2_with (gi_at_lookup; first | (refine mpLook2In rfl _ _ _ rfl _ _ keyL encI_inj Tryz.underlying106 0 (zeroI _) bm _ rfl HS2.out.1.map e.a rfl (.int .i64 n) (by rw [HI.out]; rfl) true (by rw [HI.out]; rfl) ?_) | (refine mpLook2In rfl _ _ _ rfl _ _ keyL encI_inj Tryz.underlying106 0 (zeroI _) bm _ rfl HS2.out.1.map e.b rfl (.int .i64 0) (by rw [HI2.out]; rfl) false (by rw [HI2.out]; rfl) ?_))
                    refine ⟨⟨m + 1, by go_num, by omega, ?_⟩, by simp [intOf]; omega⟩
                    obtain ⟨j1, j2, j3⟩ := HS2.out
                    refine Lib.hid ⟨?_, j2, j3⟩
                    rw [take_snoc HK.out, ← List.append_assoc]
                    exact { j1 with rel := by rw [addAll_snoc, edgeStep, HI.out, HI2.out]; exact j1.rel }
                  | some n2 =>
                    have HI2 := Lib.hid hi2
                    clear hi2
                    gi_wp2_with (first | (gi_at_lookup; first | (refine mpLook2In rfl _ _ _ rfl _ _ keyL encI_inj Tryz.underlying106 0 (zeroI _) bm _ rfl HS2.out.1.map e.a rfl (.int .i64 n) (by rw [HI.out]; rfl) true (by rw [HI.out]; rfl) ?_) | (refine mpLook2In rfl _ _ _ rfl _ _ keyL encI_inj Tryz.underlying106 0 (zeroI _) bm _ rfl HS2.out.1.map e.b rfl (.int .i64 n2) (by rw [HI2.out]; rfl) true (by rw [HI2.out]; rfl) ?_)) | (refine ⟨trivial, ?_⟩; gi_at_call 67; refine (CallsIn.inRound lp (callsIn_wide.2 (relAdd HS2.out.1.rel (n : Int) (n2 : Int)))).mono ?_; rintro e' w5 ⟨⟨v5, rfl⟩, hrel5, hf5⟩))
                    refine ⟨⟨m + 1, by go_num, by omega, ?_⟩, by simp [intOf]; omega⟩
                    obtain ⟨j1, j2, j3⟩ := HS2.out
                    refine Lib.hid ⟨?_, hf5.heap (fun e => HJ.out.2.2.2 (.inr e)) j2, j3.trans (hf5.mono (fun i _ e => .inr e))⟩
                    rw [take_snoc HK.out, ← List.append_assoc]
                    refine j1.rel_set ?_ hf5
                    rw [addAll_snoc, edgeStep, HI.out, HI2.out]
                    exact hrel5
              · gi_wp2
                rw [List.take_of_length_le (by omega)] at hS
                obtain ⟨j1, j2, j3⟩ := hS.out
                have q3 := j1.p3; have q4 := j1.p4; have q5 := j1.p5; have q6 := j1.p6
                refine hQ.out _ _ _ ⟨FileO (.slice Al ys.length cl) br ba bs, j3, fun i hi => ⟨?_, .inl hi⟩, rfl, ?_, j3.heap (fun e => ?_) HJ.out.2.1⟩
                · rcases hi with hi | hi
                  · exact (own_block j1.own hi).2.1
                  · exact j1.rel.lt i hi
                · rw [show killsOf l (pre ++ [(i, j)]) = killsOf l pre ++ y'.kills by simp [killsOf, HHK.out], show edgesOf l (pre ++ [(i, j)]) = edgesOf l pre ++ y'.edges by simp [edgesOf, HHK.out]]
                  exact j1
                · rcases e with e | e
                  · have := (j1.p1 _ e); omega
                  · have := (j1.p2 _ e); omega
      case hdone =>
        rintro O W hW hD hOD
        obtain ⟨_, g1, g2⟩ := hW W (Fr.refl _ _)
        have c9 := g1.hb9.cell
        have HH := Lib.hid (And.intro g1 (And.intro g2 (And.intro hD hW)))
        have HT8 := Lib.hid (HT.out.fr g1.fr (fun e => e))
        clear g1 g2 hD hW hOD hst hR7 hfw7
        go_wp2_with (first | (go_at_call 68; refine (relClosure HH.out.1.rel HT8.out).mono ?_; rintro e W8 ⟨br', ba', bs', rfl, hrel8, hrb8, hf8⟩) | (go_at_call 69; refine stopAt ?_))
        refine Hid.go ((relPairs hrel8 (HT8.out.fr hf8 (fun e => e))).mono ?_)
        rintro e W9 ⟨vp, rfl, hp9, hf9⟩
        have hf8s := Lib.hid hf8.size
        obtain ⟨Av, cv, rfl, _⟩ := own_form hp9
        obtain ⟨g1, g2, hD, hW⟩ := HH.out
        have hF9 := (hf8.trans hf9).heap (fun e => e) g1.file
        have hR9 := (hf8.trans hf9).heap (fun e => e) g2
        have c52 := cell_of_heap hF9 2
        have f52 := frozen_of_heap hF9 2
        have hne : b5 ≠ w.heap.size := by have := g1.p3; omega
        have hfs := Fr.set1 W9 b5 2 (.slice Av (relPairsL (closeM (addAll ys (edgesOf l (hunkIdx l path))))).length cv)
        have hR10 := hfs.heap (fun e => hne (show w.heap.size = b5 from e).symm) hR9
        have hF10 : (W9.setCell ⟨b5, 2, none⟩ (.slice Av (relPairsL (closeM (addAll ys (edgesOf l (hunkIdx l path))))).length cv)).heap[b5]? = some (.cells #[.string path, .slice Al ys.length cl, .slice Av (relPairsL (closeM (addAll ys (edgesOf l (hunkIdx l path))))).length cv] 32 (0, 0)) := by
          simp [World.setCell, Array.getElem?_modify, hF9]
        have d0 := cell_of_heap hF10 0
        have d1 := cell_of_heap hF10 1
        have d2 := cell_of_heap hF10 2
        have e0 := cell_of_heap hR10 0
        have e1 := cell_of_heap hR10 1
        have e2 := cell_of_heap hR10 2
        have z0 := frozen_of_heap hR10 0
        have z1 := frozen_of_heap hR10 1
        have z2 := frozen_of_heap hR10 2
        have HZ := Lib.hid (And.intro hF10 (And.intro hR10 (And.intro hfs (And.intro hp9 (And.intro (hf8.trans hf9) hrb8)))))
        clear g1 g2 hD hW hF9 hR9 hfs hF10 hR10 hp9 hf8 hf9 hrel8 hrb8 c9
        go_wp2
        obtain ⟨hF10, hR10, hfs, hp9, hf9, hrb8⟩ := HZ.out
        obtain ⟨g1, g2, hD, hW⟩ := HH.out
        have hDlt := (Array.getElem?_eq_some_iff.1 hD).1
        rw [hs7] at hD hDlt
        have q3 := g1.p3; have q4 := g1.p4; have q5 := g1.p5; have q6 := g1.p6
        have hs9 := hf9.size
        obtain ⟨W10, hW10⟩ : ∃ W10, W10 = W9.setCell ⟨b5, 2, none⟩ (.slice Av (relPairsL (closeM (addAll ys (edgesOf l (hunkIdx l path))))).length cv) := ⟨_, rfl⟩
        rw [← hW10] at hF10 hR10 hfs ⊢
        have hfe : Fr (One w.heap.size) W10 (((W10.setCell ⟨w.heap.size, 0, none⟩ (.string path)).setCell ⟨w.heap.size, 1, none⟩ (.slice Al ys.length cl)).setCell ⟨w.heap.size, 2, none⟩ (.slice Av (relPairsL (closeM (addAll ys (edgesOf l (hunkIdx l path))))).length cv)) :=
          ((Fr.set1 W10 w.heap.size 0 _).trans (Fr.set1 _ w.heap.size 1 _)).trans (Fr.set1 _ w.heap.size 2 _)
        have hR11 : (((W10.setCell ⟨w.heap.size, 0, none⟩ (.string path)).setCell ⟨w.heap.size, 1, none⟩ (.slice Al ys.length cl)).setCell ⟨w.heap.size, 2, none⟩ (.slice Av (relPairsL (closeM (addAll ys (edgesOf l (hunkIdx l path))))).length cv)).heap[w.heap.size]? = some (.cells #[.string path, .slice Al ys.length cl, .slice Av (relPairsL (closeM (addAll ys (edgesOf l (hunkIdx l path))))).length cv] 32 (0, 0)) := by
          simp [World.setCell, Array.getElem?_modify, hR10]
        refine post_marks (Ds := [W6.heap.size + 3]) rfl (fun D hD' => ?_) (by simp) (fun W' hff => ⟨_, results_cell_row rfl _ _ w.heap.size _ _ _ _ rfl (hff.heap (fun e => by have := List.mem_singleton.1 e; omega) hR11) Tryz.underlying32 rfl (by kernel_rfl), ys, _, _, rfl, HS.out.2, by simpa using HS.out.1, ?_, ?_, ?_⟩)
        · have e := List.mem_singleton.1 hD'
          subst e
          exact hfe.heap (fun e => by have e : W6.heap.size + 3 = w.heap.size := e; omega) (hfs.heap (fun e => by have e : W6.heap.size + 3 = b5 := e; omega) (hf9.heap (fun e => e) hD))
        · refine own_fr (own_fr (own_fr (own_fr g1.own hf9 (fun _ _ e => e)) hfs (fun i hi e => ?_)) hfe (fun i hi e => ?_)) hff (fun i hi e => ?_)
          · have e : i = b5 := e; have := g1.p1 i hi; omega
          · have e : i = w.heap.size := e; have := g1.p1 i hi; omega
          · have e := List.mem_singleton.1 e; have := g1.p1 i hi; omega
        · have hpb : ∀ i, OwnO (.slice Av (relPairsL (closeM (addAll ys (edgesOf l (hunkIdx l path))))).length cv) i → W.heap.size ≤ i := fun i hi => by have := (own_block hp9 hi).1; have := hf8s.out; omega
          refine own_lower (own_fr (own_fr (own_fr hp9 hfs (fun i hi e => ?_)) hfe (fun i hi e => ?_)) hff (fun i hi e => ?_)) (by have := hf8s.out; have := g1.fr.size; omega)
          · have e : i = b5 := e; have := hpb i hi; omega
          · have e : i = w.heap.size := e; have := hpb i hi; omega
          · have e := List.mem_singleton.1 e; have := hpb i hi; omega
        · refine (((g1.fr.trans hf9).comp hfs (fun _ _ e => e) (fun i hi e => ?_)).comp hfe (fun _ _ e => e) (fun i hi e => ?_)).comp hff (fun _ _ e => e) (fun i hi e => ?_)
          · have e : i = b5 := e; omega
          · have e : i = w.heap.size := e; omega
          · have e := List.mem_singleton.1 e; omega
end Go.Proofs.YthnfkjcndidoaaaGreatDoor
