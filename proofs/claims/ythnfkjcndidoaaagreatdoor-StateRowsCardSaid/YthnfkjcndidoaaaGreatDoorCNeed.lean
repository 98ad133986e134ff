import Derived.Test.YthnfkjcndidoaaaGreatDoorCDel2
set_option linter.unusedVariables false
set_option linter.unusedSimpArgs false
namespace Go.Proofs.YthnfkjcndidoaaaGreatDoor
open Go.RowKit Go.Shelf Go.Sort
theorem info_u32 : (Tryz.prog.info? 43).map (fun i => (i.zero, i.size, i.bytes)) = some (some (.int .u32 0), 1, 4) := by kernel_rfl
/-- The numbers that a hunk, a patch names. -/
def hkNeeds (h : Hk) : List Nat := h.edges.flatMap (fun e => [e.a.p, e.b.p]) ++ h.kills.map (·.p)
def ptNeeds (x : Pt) : List Nat := x.hunks.flatMap hkNeeds
theorem OwnU.fr {S : Nat → Prop} {w w' : World} {base : Nat} {v : Value} {xs : List Nat} (h : OwnU w base v xs) (hf : Fr S w w') (hn : ∀ i, OwnO v i → ¬ S i) : OwnU w' base v xs := own_fr h hf hn
theorem OwnU.ne {w : World} {base : Nat} {v : Value} {xs : List Nat} (h : OwnU w base v xs) {b : Nat} {cs : Array Value} {t : TypeId} {f : Nat × Nat} (hb : w.heap[b]? = some (.cells cs t f)) (ht : t ≠ 43) : ¬ OwnO v b := by
  intro hi
  obtain ⟨_, _, cur, hc⟩ := own_block h hi
  have := hb.symm.trans hc
  simp at this
  exact ht this.2.1
theorem OwnU.base {w : World} {base : Nat} {v : Value} {xs : List Nat} (h : OwnU w base v xs) : ∀ i, OwnO v i → base ≤ i ∧ i < w.heap.size := fun i hi => ⟨(own_block h hi).1, (own_block h hi).2.1⟩
/-- A step that writes into the own row alone, behind one that wrote nothing old. -/
theorem Fr.own {W1 w w' : World} {v : Value} (h : Fr No W1 w) (k : Fr (OwnO v) w w') (hb : ∀ i, OwnO v i → W1.heap.size ≤ i) : Fr No W1 w' := h.comp k (fun _ _ e => e) (fun i hi e => by have := hb i e; omega)
theorem take_flat {α β : Type} {f : α → List β} {l : List α} {k : Nat} {x : α} (hx : l[k]? = some x) : (l.take (k + 1)).flatMap f = (l.take k).flatMap f ++ f x := by
  rw [List.take_add_one, hx]; simp
theorem take_map {α β : Type} {f : α → β} {l : List α} {k : Nat} {x : α} (hx : l[k]? = some x) : (l.take (k + 1)).map f = (l.take k).map f ++ [f x] := by
  rw [List.take_add_one, hx]; simp
theorem flat_le {α β : Type} {f : α → List β} {l : List α} {k : Nat} {x : α} (hx : l[k]? = some x) : ((l.take k).flatMap f).length + (f x).length ≤ (l.flatMap f).length := by
  have h := take_flat (f := f) hx
  have h2 : ((l.take (k + 1)).flatMap f).length ≤ (l.flatMap f).length := by
    conv => rhs; rw [← List.take_append_drop (k + 1) l, List.flatMap_append, List.length_append]
    omega
  rw [h, List.length_append] at h2
  exact h2
theorem OwnU.app {w : World} {base : Nat} {v : Value} {xs ys : List Nat} {n : Nat} (h : w.ownsRow base 43 1 v n (xs.map encU ++ ys.map encU)) (hn : n = xs.length + ys.length) : OwnU w base v (xs ++ ys) := by
  subst hn
  unfold OwnU
  rw [List.map_append, List.length_append]
  exact h
theorem OwnU.up {w : World} {base : Nat} {v : Value} {xs : List Nat} {u : Nat} (h : OwnU w base v xs) (hu : u < base) : ¬ OwnO v u := fun e => by
  have := (h.base _ e).1
  omega
theorem two_len : ∀ (l : List Edg), (l.flatMap (fun e => [e.a.p, e.b.p])).length = 2 * l.length
  | [] => rfl
  | e :: r => by rw [List.flatMap_cons, List.length_append, two_len r]; simp; omega
theorem hkNeeds_len (y : Hk) : (hkNeeds y).length = 2 * y.edges.length + y.kills.length := by
  rw [hkNeeds, List.length_append, two_len, List.length_map]
set_option maxHeartbeats 4000000 in
set_option maxRecDepth 100000 in
theorem needs_any {w : World} {x : Pt} {Ad : Option Addr} {cd : Nat} {Am : Option Addr} {cm : Nat} {Ar : Option Addr} {cr : Nat} {Ah : Option Addr} {ch : Nat} (h : PtV w x Ad cd Am cm Ar cr Ah ch) (hN : (ptNeeds x).length ≤ 1000000) :
    Calls Tryz.prog 122 #[.agg #[.int .u32 x.id, .slice Ad x.deps.length cd, .slice Am x.makes.length cm, .slice Ar x.drops.length cr, .slice Ah x.hunks.length ch]] w fun e w' =>
      ∃ v ys, e = .returned v ∧ OwnU w' w.heap.size v ys ∧ ys.Pairwise (· < ·) ∧ (∀ y, y ∈ ys ↔ y ∈ ptNeeds x ∧ y ≠ x.id) ∧ Fr No w w' := by
  have H := Lib.hid h
  obtain ⟨_, _, _, _, hb⟩ := h.hunks.form
  have HN := Lib.hid hN
  obtain ⟨i0, hi, hz0, hz1, hz2⟩ := info_parts info_u32
  have HI := Lib.hid (And.intro hi (And.intro hz0 (And.intro hz1 hz2)))
  clear h hN hi hz0 hz1 hz2
  go_enter Tryz.func122, Tryz.ntmps122
  go_wp2
  refine namedN (fun W1 hW1 => ?_)
  have hsz : W1.heap.size = w.heap.size + 1 := by rw [hW1]; simp
  have hf1 : Fr No w W1 := by rw [hW1]; exact Fr.alloc _ _ _
  have hB1 : PtBox W1 w.heap.size x Ad cd Am cm Ar cr Ah ch := by rw [hW1]; exact heap_last _ _
  clear hW1
  have HB1 := Lib.hid hB1
  have HF1 := Lib.hid hf1
  have HS := Lib.hid hsz
  have H1 := Lib.hid (H.out.fr hf1)
  clear hB1 hf1 H hsz
  go_loopw [3, 13] (fun v i wr => ∃ (v' : Value) (k : Nat), v' = v ∧ i = .int .i64 k ∧ k ≤ x.hunks.length ∧ Hid (OwnU wr W1.heap.size v' ((x.hunks.take k).flatMap hkNeeds)) ∧ Hid (Fr No W1 wr)) (fun _ i _ => x.hunks.length - (intOf i).toNat)
  case atStart => exact ⟨_, 0, rfl, rfl, Nat.zero_le _, Lib.hid (World.ownsRow_nil _ _ _ _), Lib.hid (Fr.refl _ _)⟩
  case round =>
    obtain ⟨v, k, rfl, rfl, hk, hO, hf⟩ := hrel
    by_cases hlt : k < x.hunks.length
    · obtain ⟨b, o, y, Aa, ca, Ae, ce, Ak, ck, rfl, hz, q0, q1, q2, q3, hya, hye, hyk⟩ := at_hk H1.out.hunks k hlt
      have k0 := hf.out.cell (fun e => e) q0
      have k1 := hf.out.cell (fun e => e) q1
      have k2 := hf.out.cell (fun e => e) q2
      have k3 := hf.out.cell (fun e => e) q3
      obtain ⟨_, _, _, _, hbe⟩ := hye.form
      obtain ⟨_, _, _, _, hbk⟩ := hyk.form
      have HZ := Lib.hid hz
      have HYE := Lib.hid hye
      have HYK := Lib.hid hyk
      clear hz hya hye hyk q0 q1 q2 q3
      go_wp2
      clear k0 k1 k2 k3
      refine namedN (fun W2 hW2 => ?_)
      have hfa : Fr No wr W2 := by rw [hW2]; exact Fr.alloc _ _ _
      have hB2 : W2.heap[wr.heap.size]? = some (.cells #[.string y.path, .slice Aa y.adds.length ca, .slice Ae y.edges.length ce, .slice Ak y.kills.length ck] 57 (0, 0)) := by rw [hW2]; exact heap_last _ _
      have HB2 := Lib.hid hB2
      have HO := Lib.hid (hO.out.fr hfa (fun _ _ e => e))
      have HF := Lib.hid (hf.out.trans hfa)
      have HLE := Lib.hid (flat_le (f := hkNeeds) HZ.out)
      obtain ⟨bh, hbh⟩ : ∃ bh, bh = wr.heap.size := ⟨_, rfl⟩
      rw [← hbh] at HB2 ⊢
      clear hW2 hfa hB2 hO hf hbh
      have hbnd : ((x.hunks.take k).flatMap hkNeeds).length + (2 * y.edges.length + y.kills.length) ≤ 1000000 := by
        have h1 := HLE.out
        have h2 := HN.out
        unfold ptNeeds at h2
        rw [hkNeeds_len] at h1
        omega
      have HB := Lib.hid hbnd
      clear hbnd
      go_loopw [3, 20] (fun v i wq => ∃ (v' : Value) (j : Nat), v' = v ∧ i = .int .i64 j ∧ j ≤ y.edges.length ∧ Hid (OwnU wq W1.heap.size v' ((x.hunks.take k).flatMap hkNeeds ++ (y.edges.take j).flatMap (fun e => [e.a.p, e.b.p]))) ∧ Hid (Fr No W1 wq) ∧ Hid (wq.heap[bh]? = some (.cells #[.string y.path, .slice Aa y.adds.length ca, .slice Ae y.edges.length ce, .slice Ak y.kills.length ck] 57 (0, 0)))) (fun _ i _ => y.edges.length - (intOf i).toNat)
      case atStart => exact ⟨_, 0, rfl, rfl, Nat.zero_le _, Lib.hid (by simpa using HO.out), HF, HB2⟩
      case round =>
        clear HO HF HB2
        obtain ⟨v2, j, rfl, rfl, hj, hO, hf, hb2⟩ := hrel
        by_cases hlt2 : j < y.edges.length
        · obtain ⟨b', o', e, rfl, hz2, r0, r1, r2, r3⟩ := at_edg HYE.out j hlt2
          have m0 := hf.out.cell (fun e => e) r0
          have m1 := hf.out.cell (fun e => e) r1
          have m2 := hf.out.cell (fun e => e) r2
          have m3 := hf.out.cell (fun e => e) r3
          have HZ2 := Lib.hid hz2
          clear hz2 r0 r1 r2 r3
          have hxl : ((x.hunks.take k).flatMap hkNeeds ++ (y.edges.take j).flatMap (fun e => [e.a.p, e.b.p])).length + 2 ≤ 1000000 := by
            rw [List.length_append, two_len, List.length_take, Nat.min_eq_left hj]
            have := HB.out
            omega
          obtain ⟨zs, hzs⟩ : ∃ zs, zs = (x.hunks.take k).flatMap hkNeeds ++ (y.edges.take j).flatMap (fun e => [e.a.p, e.b.p]) := ⟨_, rfl⟩
          rw [← hzs] at hO hxl
          have HZS := Lib.hid hzs
          clear hzs
          have hO1 := hO.out.fr (Fr.alloc No wr (.cells #[.int .u32 e.a.p, .int .i64 e.a.n, .int .u32 e.b.p, .int .i64 e.b.n] 59)) (fun _ _ e => e)
          have hO3 := hO1.fr (Fr.alloc No _ (.cells #[.int .u32 e.a.p, .int .u32 e.b.p] 43)) (fun _ _ e => e)
          have hbs : W1.heap.size ≤ wr.heap.size := hf.out.size
          have HX := Lib.hid (And.intro hO3 hO1)
          have H5 := Lib.hid hxl
          clear hO1 hO3 hxl
          go_wp2_with (at_builtin; refine stopAt ?_)
          refine Hid.go (growN rfl _ _ 49 rfl W1.heap.size 43 i0 _ 1 4 Tryz.underlying49 HI.out.1 HI.out.2.1 HI.out.2.2.1 HI.out.2.2.2 rfl (by decide) v2 _ _ rfl HX.out.1 ⟨wr.heap.size + 1, 0, none⟩ 2 2 [.int .u32 e.a.p, .int .u32 e.b.p] rfl rfl (by have := new_cells (wr.alloc (.cells #[.int .u32 e.a.p, .int .i64 e.a.n, .int .u32 e.b.p, .int .i64 e.b.n] 59)) [.int .u32 e.a.p, .int .u32 e.b.p] 43; rw [World.size_alloc] at this; exact this) (by simp [Value.oneCell']) (by decide) (by have := H5.out; unfold maxLen; omega) (by have := H5.out; omega) (by simp; omega) ?_)
          intro g cap w1 hown hfa hg hgl
          go_wp2
          go_roundw
          case rel =>
            have hfr1 : Fr No W1 w1 := ((hf.out.trans (Fr.alloc _ _ _)).trans (Fr.alloc _ _ _)).own hfa (fun i hi => (HX.out.1.base i hi).1)
            refine ⟨_, j + 1, rfl, by go_num, by omega, Lib.hid ?_, Lib.hid hfr1, Lib.hid ?_⟩
            · have := OwnU.app (ys := [e.a.p, e.b.p]) hown rfl
              rw [take_flat HZ2.out, ← List.append_assoc, ← HZS.out]
              exact this
            · exact hfa.heap (HX.out.1.ne (((Fr.alloc No wr _).trans (Fr.alloc No _ _)).heap (fun e => e) hb2.out) (by decide)) (((Fr.alloc No wr _).trans (Fr.alloc No _ _)).heap (fun e => e) hb2.out)
          case measure => simp [intOf]; omega
        · have c3 := cell_of_heap hb2.out 3
          rw [List.take_of_length_le (l := y.edges) (by omega)] at hO
          go_wp2
          clear c3 hlt2 hj
          have HO := hO
          have HF := hf
          have HB2 := hb2
          clear hO hf hb2
          go_loopw [3, 37] (fun v i wq => ∃ (v' : Value) (j : Nat), v' = v ∧ i = .int .i64 j ∧ j ≤ y.kills.length ∧ Hid (OwnU wq W1.heap.size v' ((x.hunks.take k).flatMap hkNeeds ++ (y.edges.flatMap (fun e => [e.a.p, e.b.p]) ++ (y.kills.take j).map (·.p)))) ∧ Hid (Fr No W1 wq)) (fun _ i _ => y.kills.length - (intOf i).toNat)
          case atStart => exact ⟨_, 0, rfl, rfl, Nat.zero_le _, Lib.hid (by simpa using HO.out), HF⟩
          case round =>
            clear HO HF HB2
            obtain ⟨v2, j, rfl, rfl, hj, hO, hf⟩ := hrel
            by_cases hlt2 : j < y.kills.length
            · obtain ⟨b', o', e, rfl, hz2, r0, r1⟩ := at_lid HYK.out j hlt2
              have m0 := hf.out.cell (fun e => e) r0
              have m1 := hf.out.cell (fun e => e) r1
              have HZ2 := Lib.hid hz2
              clear hz2 r0 r1
              have hxl : ((x.hunks.take k).flatMap hkNeeds ++ (y.edges.flatMap (fun e => [e.a.p, e.b.p]) ++ (y.kills.take j).map (·.p))).length + 1 ≤ 1000000 := by
                rw [List.length_append, List.length_append, two_len, List.length_map, List.length_take, Nat.min_eq_left hj]
                have := HB.out
                omega
              obtain ⟨zs, hzs⟩ : ∃ zs, zs = (x.hunks.take k).flatMap hkNeeds ++ (y.edges.flatMap (fun e => [e.a.p, e.b.p]) ++ (y.kills.take j).map (·.p)) := ⟨_, rfl⟩
              rw [← hzs] at hO hxl
              have HZS := Lib.hid hzs
              clear hzs
              have hO1 := hO.out.fr (Fr.alloc No wr (.cells #[.int .u32 e.p, .int .i64 e.n] 45)) (fun _ _ e => e)
              have hO3 := hO1.fr (Fr.alloc No _ (.cells #[.int .u32 e.p] 43)) (fun _ _ e => e)
              have hbs : W1.heap.size ≤ wr.heap.size := hf.out.size
              have HX := Lib.hid (And.intro hO3 hO1)
              have H5 := Lib.hid hxl
              clear hO1 hO3 hxl
              go_wp2_with (at_builtin; refine stopAt ?_)
              refine Hid.go (growN rfl _ _ 49 rfl W1.heap.size 43 i0 _ 1 4 Tryz.underlying49 HI.out.1 HI.out.2.1 HI.out.2.2.1 HI.out.2.2.2 rfl (by decide) v2 _ _ rfl HX.out.1 ⟨wr.heap.size + 1, 0, none⟩ 1 1 [.int .u32 e.p] rfl rfl (by have := new_cells (wr.alloc (.cells #[.int .u32 e.p, .int .i64 e.n] 45)) [.int .u32 e.p] 43; rw [World.size_alloc] at this; exact this) (by simp [Value.oneCell']) (by decide) (by have := H5.out; unfold maxLen; omega) (by have := H5.out; omega) (by simp; omega) ?_)
              intro g cap w1 hown hfa hg hgl
              go_wp2
              go_roundw
              case rel =>
                have hfr1 : Fr No W1 w1 := ((hf.out.trans (Fr.alloc _ _ _)).trans (Fr.alloc _ _ _)).own hfa (fun i hi => (HX.out.1.base i hi).1)
                refine ⟨_, j + 1, rfl, by go_num, by omega, Lib.hid ?_, Lib.hid hfr1⟩
                have := OwnU.app (ys := [e.p]) hown rfl
                rw [take_map HZ2.out, ← List.append_assoc, ← List.append_assoc, List.append_assoc ((x.hunks.take k).flatMap hkNeeds), ← HZS.out]
                exact this
              case measure => simp [intOf]; omega
            · rw [List.take_of_length_le (l := y.kills) (by omega)] at hO
              go_wp2
              go_roundw
              case rel =>
                refine ⟨_, k + 1, rfl, by go_num, by omega, Lib.hid ?_, hf⟩
                rw [take_flat HZ.out]
                exact hO.out
              case measure => simp [intOf]; omega
    · rw [List.take_of_length_le (by omega)] at hO
      have hsz := HS.out
      have hlt1 : w.heap.size < wr.heap.size := by have := hf.out.size; omega
      have cId := cell_of_heap (hf.out.heap (fun e => e) HB1.out) 0
      have hnO : ¬ OwnO v w.heap.size := hO.out.up (by omega)
      have HD := Lib.hid (delU hO.out w.heap.size x.id hlt1 cId hnO)
      have hl : (x.hunks.flatMap hkNeeds).length ≤ 1000000 := HN.out
      clear cId hnO hsz
      go_wp2_with (first
        | (go_at_call 153; refine HD.out.mono ?_; rintro e w3 ⟨v3, rfl, ho3, hf3, hi3⟩)
        | (go_at_call 155; refine (sortOwn ho3 (Nat.lt_of_le_of_lt (Nat.le_trans (List.length_filter_le _ _) hl) (by omega))).mono ?_; rintro e w4 ⟨rfl, ys, ho4, hp4, hs4, hf4⟩)
        | (go_at_call 156; refine (compactOwn ho4 hs4).mono ?_; rintro e w5 ⟨v5, zs, rfl, ho5, hs5, hm5, hf5, hi5⟩))
      go_ret
      have hb3 := ho3.base
      have hb4 := ho4.base
      have hbv := hO.out.base
      refine ⟨v5, zs, rfl, own_lower ho5 (by have := HS.out; omega), hs5, fun y => ?_, ?_⟩
      · rw [hm5, hp4.mem_iff, List.mem_filter]
        simp [ptNeeds]
      · exact HF1.out.trans ((((hf.out.own hf3 (fun i hi => (hbv i hi).1)).own hf4 (fun i hi => (hb3 i hi).1))).own hf5 (fun i hi => (hb4 i hi).1))
end Go.Proofs.YthnfkjcndidoaaaGreatDoor
