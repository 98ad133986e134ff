import Derived.Test.YthnfkjcndidoaaaGreatDoorCPaths
set_option linter.unusedVariables false
set_option linter.unusedSimpArgs false
namespace Go.Proofs.YthnfkjcndidoaaaGreatDoor
open Go.RowKit Go.Shelf

/-- May a hunk that adds n lines from f on name this line? -/
def namedB (id f n : Nat) (l : LId) : Bool := decide (0 ≤ l.n) && (decide (l.n < 40) && (decide (l.p ≠ id) || (decide ((f : Int) ≤ l.n) && decide (l.n < (f : Int) + n))))
theorem named_own (id f n : Nat) (l : LId) : (l.p ≠ id ∧ Hid ((decide (l.p ≠ id) || (decide ((f : Int) ≤ l.n) && decide (l.n < (f : Int) + n))) = true)) ∨
    (l.p = id ∧ l.n < f ∧ Hid ((decide (l.p ≠ id) || (decide ((f : Int) ≤ l.n) && decide (l.n < (f : Int) + n))) = false)) ∨
    (l.p = id ∧ (f : Int) ≤ l.n ∧ (f : Int) + n ≤ l.n ∧ Hid ((decide (l.p ≠ id) || (decide ((f : Int) ≤ l.n) && decide (l.n < (f : Int) + n))) = false)) ∨
    (l.p = id ∧ (f : Int) ≤ l.n ∧ l.n < (f : Int) + n ∧ Hid ((decide (l.p ≠ id) || (decide ((f : Int) ≤ l.n) && decide (l.n < (f : Int) + n))) = true)) := by
  by_cases h1 : l.p = id
  · by_cases h2 : (f : Int) ≤ l.n
    · by_cases h3 : l.n < (f : Int) + n
      · exact .inr (.inr (.inr ⟨h1, h2, h3, Lib.hid (by simp [h2, h3])⟩))
      · exact .inr (.inr (.inl ⟨h1, h2, by omega, Lib.hid (by simp [h1, h2, h3])⟩))
    · exact .inr (.inl ⟨h1, by omega, Lib.hid (by simp [h1, h2])⟩)
  · exact .inl ⟨h1, Lib.hid (by simp [h1])⟩
/-- A hunk's box. -/
def HkBox (W : World) (b : Nat) (x : Hk) (Aa : Option Addr) (ca : Nat) (Ae : Option Addr) (ce : Nat) (Ak : Option Addr) (ck : Nat) : Prop :=
  W.heap[b]? = some (.cells #[.string x.path, .slice Aa x.adds.length ca, .slice Ae x.edges.length ce, .slice Ak x.kills.length ck] 57 (0, 0))
set_option maxHeartbeats 4000000 in
set_option maxRecDepth 100000 in
theorem named_any {W : World} {b3 b4 b5 : Nat} {id f : Nat} {x : Hk} {Aa : Option Addr} {ca : Nat} {Ae : Option Addr} {ce : Nat} {Ak : Option Addr} {ck : Nat} (h3 : Box W b3 43 (.int .u32 id)) (h5 : Box W b5 3 (.int .i64 f)) (h4 : HkBox W b4 x Aa ca Ae ce Ak ck)
    (hf : f ≤ 10000) (hn : x.adds.length ≤ 10000) (l : LId) : Calls Tryz.prog 126 #[.agg #[.int .u32 l.p, .int .i64 l.n], .pointer (some ⟨b3, 0, none⟩), .pointer (some ⟨b5, 0, none⟩), .pointer (some ⟨b4, 0, none⟩)] W fun e w' => e = .returned (.bool (namedB id f x.adds.length l)) ∧ Fr No W w' := by
  have c3 := (h3.old (.cells #[.int .u32 l.p, .int .i64 l.n] 45)).cell
  have c5 := (h5.old (.cells #[.int .u32 l.p, .int .i64 l.n] 45)).cell
  have c4 := cell_of_heap ((Fr.alloc No W (.cells #[.int .u32 l.p, .int .i64 l.n] 45)).heap (fun e => e) h4) 1
  clear h3 h4 h5
  rcases named_own id f x.adds.length l with ⟨g1, hr⟩ | ⟨g1, g2, hr⟩ | ⟨g1, g2, g3, hr⟩ | ⟨g1, g2, g3, hr⟩
  all_goals
    have HG := Lib.hid g1
    first
      | (have ht : ((l.p : Int) != (id : Int)) = true := by simp; omega)
      | (have ht : ((l.p : Int) != (id : Int)) = false := by simp; omega)
    clear g1
    by_cases g4 : 0 ≤ l.n
    · by_cases g5 : l.n < 40
      · have g6 : l.n ≤ 9223372036854775807 := by omega
        go_enter Tryz.func126, Tryz.ntmps126
        go_wp2
        go_ret
        refine ⟨?_, Fr.alloc _ _ _⟩
        rw [namedB, hr.out]
        simp [g4, g5]
        try omega
      · go_enter Tryz.func126, Tryz.ntmps126
        go_wp2
        go_ret
        refine ⟨?_, Fr.alloc _ _ _⟩
        rw [namedB, show decide (l.n < 40) = false by simp; omega, Bool.false_and, Bool.and_false]
        rfl
    · first
        | (exfalso; omega)
        | (go_enter Tryz.func126, Tryz.ntmps126
           go_wp2
           go_ret
           refine ⟨?_, Fr.alloc _ _ _⟩
           rw [namedB, show decide (0 ≤ l.n) = false by simp; omega, Bool.false_and]
           rfl)
theorem lid_ext {a b : LId} (h1 : (a.p : Int) = b.p) (h2 : a.n = b.n) : a = b := by
  cases a; cases b; simp only at h1 h2; simp only [LId.mk.injEq]; exact ⟨by omega, h2⟩
theorem lid_ne1 {a b : LId} (h : ¬ (a.p : Int) = b.p) : decide (a = b) = false := by
  simp; rintro rfl; exact h rfl
theorem lid_ne2 {a b : LId} (h : ¬ a.n = b.n) : decide (a = b) = false := by
  simp; rintro rfl; exact h rfl
theorem enters_named : Enters Tryz.prog 126 := enters_of Tryz.func126 (by kernel_rfl) rfl
def isHunkB (id f : Nat) (x : Hk) : Bool := decide (x.adds.length ≤ 40) && (decide (x.edges.length ≤ 80) && (decide (x.kills.length ≤ 40) && (x.adds.all isLineB && (x.edges.all (fun e => namedB id f x.adds.length e.a && (namedB id f x.adds.length e.b && !decide (e.a = e.b))) && (x.kills.all (fun k => namedB id f x.adds.length k && !decide (k.p = id)) && (Rises edgLt x.edges && Rises lidLt x.kills))))))
/-- A hunk by value: its fields. -/
structure HkV (W : World) (x : Hk) (Aa : Option Addr) (ca : Nat) (Ae : Option Addr) (ce : Nat) (Ak : Option Addr) (ck : Nat) : Prop where
  adds : SlIs rStr W (.slice Aa x.adds.length ca) x.adds
  edges : SlIs rEdg W (.slice Ae x.edges.length ce) x.edges
  kills : SlIs rLId W (.slice Ak x.kills.length ck) x.kills
theorem HkV.fr {W W' : World} {x : Hk} {Aa : Option Addr} {ca : Nat} {Ae : Option Addr} {ce : Nat} {Ak : Option Addr} {ck : Nat} (h : HkV W x Aa ca Ae ce Ak ck) (hf : Fr No W W') : HkV W' x Aa ca Ae ce Ak ck := ⟨h.adds.fr hf, h.edges.fr hf, h.kills.fr hf⟩
set_option maxHeartbeats 4000000 in
set_option maxRecDepth 100000 in
theorem isHunk_any {w : World} {id f : Nat} {x : Hk} {Aa : Option Addr} {ca : Nat} {Ae : Option Addr} {ce : Nat} {Ak : Option Addr} {ck : Nat} (h : HkV w x Aa ca Ae ce Ak ck) (hf0 : f ≤ 10000) :
    Calls Tryz.prog 90 #[.int .u32 id, .agg #[.string x.path, .slice Aa x.adds.length ca, .slice Ae x.edges.length ce, .slice Ak x.kills.length ck], .int .i64 f] w fun e w' => e = .returned (.bool (isHunkB id f x)) ∧ Fr No w w' := by
  have H := Lib.hid h
  obtain ⟨_, _, _, _, hb1⟩ := h.adds.form
  obtain ⟨_, _, _, _, hb2⟩ := h.edges.form
  obtain ⟨_, _, _, _, hb3⟩ := h.kills.form
  clear h
  have F1 : Fr No w (((w.alloc (.cells #[.int .u32 id] 43)).alloc (.cells #[.string x.path, .slice Aa x.adds.length ca, .slice Ae x.edges.length ce, .slice Ak x.kills.length ck] 57)).alloc (.cells #[.int .i64 f] 3)) := ((Fr.alloc _ _ _).trans (Fr.alloc _ _ _)).trans (Fr.alloc _ _ _)
  have B3 := ((Box.new w 43 (.int .u32 id)).old (.cells #[.string x.path, .slice Aa x.adds.length ca, .slice Ae x.edges.length ce, .slice Ak x.kills.length ck] 57)).old (.cells #[.int .i64 f] 3)
  have B5 := Box.new ((w.alloc (.cells #[.int .u32 id] 43)).alloc (.cells #[.string x.path, .slice Aa x.adds.length ca, .slice Ae x.edges.length ce, .slice Ak x.kills.length ck] 57)) 3 (.int .i64 f)
  have B4 : HkBox (((w.alloc (.cells #[.int .u32 id] 43)).alloc (.cells #[.string x.path, .slice Aa x.adds.length ca, .slice Ae x.edges.length ce, .slice Ak x.kills.length ck] 57)).alloc (.cells #[.int .i64 f] 3)) (w.heap.size + 1) x Aa ca Ae ce Ak ck :=
    (Fr.alloc No _ (.cells #[.int .i64 f] 3)).heap (fun e => e) (by have := heap_last (w.alloc (.cells #[.int .u32 id] 43)) (.cells #[.string x.path, .slice Aa x.adds.length ca, .slice Ae x.edges.length ce, .slice Ak x.kills.length ck] 57); rwa [World.size_alloc] at this)
  simp only [World.size_alloc] at B5
  go_enter Tryz.func90, Tryz.ntmps90
  by_cases g1 : x.adds.length ≤ 40
  · by_cases g2 : x.edges.length ≤ 80
    · by_cases g3 : x.kills.length ≤ 40
      · go_wp2
        refine namedN (fun W1 hW1 => ?_)
        rw [← hW1] at F1 B3 B4 B5
        have NM : ∀ (W : World) (l : LId), Fr No W1 W → Calls Tryz.prog 126 #[.agg #[.int .u32 l.p, .int .i64 l.n], .pointer (some ⟨w.heap.size, 0, none⟩), .pointer (some ⟨w.heap.size + 1 + 1, 0, none⟩), .pointer (some ⟨w.heap.size + 1, 0, none⟩)] W fun e w' => e = .returned (.bool (namedB id f x.adds.length l)) ∧ Fr No W w' :=
          fun W l hf => named_any (B3.fr hf (fun e => e)) (B5.fr hf (fun e => e)) (hf.heap (fun e => e) B4) hf0 (by omega) l
        have HN := Lib.hid NM
        have H1 := Lib.hid (H.out.fr F1)
        have HB := Lib.hid (And.intro B3 B4)
        have HG := Lib.hid (And.intro g1 (And.intro g2 g3))
        have hfs := F1.size
        clear hW1 NM B3 B4 B5 H g1 g2 g3 hfs
        go_loopw [34] (fun i wq => ∃ k : Nat, i = .int .i64 k ∧ k ≤ x.adds.length ∧ Hid ((x.adds.take k).all isLineB = true) ∧ Hid (Fr No W1 wq)) (fun i _ => x.adds.length - (intOf i).toNat)
        case atStart => exact ⟨0, rfl, Nat.zero_le _, Lib.hid (by simp), Lib.hid (Fr.refl _ _)⟩
        case round =>
          obtain ⟨k, rfl, hk, hall1, hf2⟩ := hrel
          by_cases hlt : k < x.adds.length
          · obtain ⟨b, o, z, rfl, hz, kz⟩ := at_str (H1.out.adds.fr hf2.out) k hlt
            have HZ := Lib.hid hz
            clear hz
            cases hv : isLineB z with
            | true =>
              have HV := Lib.hid hv
              clear hv
              go_wp2_with (go_at_call 127; refine (isLine_any _ z).mono ?_; rw [HV.out]; rintro e w' ⟨rfl, rfl⟩)
              go_roundw
              case rel => exact ⟨k + 1, by go_num, by omega, Lib.hid (all_take_succ hall1.out HZ.out HV.out), hf2⟩
              case measure => simp [intOf]; omega
            | false =>
              have HV := Lib.hid hv
              clear hv
              go_wp2_with (go_at_call 127; refine (isLine_any _ z).mono ?_; rw [HV.out]; rintro e w' ⟨rfl, rfl⟩)
              go_ret
              refine ⟨?_, F1.trans hf2.out⟩
              rw [isHunkB, all_false (f := isLineB) HZ.out HV.out]
              simp
          · have hall1 := Lib.hid (all_take hall1.out (by omega))
            have cc := hf2.out.heap (fun e => e) HB.out.2
            have cm := (cell_of_heap cc 2)
            go_wp2
            clear hk hlt
            obtain ⟨wo, hwo⟩ : ∃ wo : World, wo = wr := ⟨_, rfl⟩
            rw [← hwo] at hf2 ⊢
            clear hwo cc cm
            go_loopw [45] (fun i wq => ∃ k : Nat, i = .int .i64 k ∧ k ≤ x.edges.length ∧ Hid ((x.edges.take k).all (fun e => namedB id f x.adds.length e.a && (namedB id f x.adds.length e.b && !decide (e.a = e.b))) = true) ∧ Hid (Fr No W1 wq)) (fun i _ => x.edges.length - (intOf i).toNat)
            case atStart => exact ⟨0, rfl, Nat.zero_le _, Lib.hid (by simp), hf2⟩
            case round =>
              clear hf2
              obtain ⟨k, rfl, hk, hall2, hf2⟩ := hrel
              have cc := hf2.out.heap (fun e => e) HB.out.2
              have cm := (cell_of_heap cc 2)
              by_cases hlt : k < x.edges.length
              · obtain ⟨b, o, y, hbo, hz, k0, k1, k2, k3⟩ := at_edg (H1.out.edges.fr hf2.out) k hlt
                rw [hbo] at cc cm ⊢
                have HZ := Lib.hid hz
                clear hz
                cases hva : namedB id f x.adds.length y.a with
                | true =>
                  have HA := Lib.hid hva
                  clear hva
                  cases hvb : namedB id f x.adds.length y.b with
                  | true =>
                    have HV := Lib.hid hvb
                    clear hvb
                    have ha : (wr.alloc (.cells #[.int .u32 y.a.p, .int .i64 y.a.n, .int .u32 y.b.p, .int .i64 y.b.n] 59)).heap[wr.heap.size]? = _ := heap_last _ _
                    have NA := Lib.hid (HN.out _ y.a (hf2.out.trans (Fr.alloc _ wr (.cells #[.int .u32 y.a.p, .int .i64 y.a.n, .int .u32 y.b.p, .int .i64 y.b.n] 59))))
                    rw [HA.out] at NA
                    have NB := Lib.hid fun W hf => HN.out W y.b hf
                    rw [HV.out] at NB
                    have HC := Lib.hid ha
                    clear ha
                    go_wp2_with (first
                      | (go_at_call 126; with_reducible refine NA.out.mono ?_; rintro e w2 ⟨rfl, hf3⟩; have hc := hf3.heap (fun e => e) HC.out; have c0 := cell_of_heap hc 0; have c1 := cell_of_heap hc 1; have c2 := cell_of_heap hc 2; have c3 := cell_of_heap hc 3; have HC2 := Lib.hid hc; have HF3 := Lib.hid hf3; clear hc hf3 HC)
                      | (go_at_call 126; with_reducible refine (NB.out _ ((hf2.out.trans (Fr.alloc _ _ _)).trans HF3.out)).mono ?_; rintro e w3 ⟨rfl, hf4⟩; have hc := hf4.heap (fun e => e) HC2.out; have d0 := cell_of_heap hc 0; have d1 := cell_of_heap hc 1; have d2 := cell_of_heap hc 2; have d3 := cell_of_heap hc 3; have HF4 := Lib.hid hf4; clear hc hf4))
                    all_goals first
                      | (go_roundw
                         case rel => exact ⟨k + 1, by go_num, by omega, Lib.hid (all_take_succ hall2.out HZ.out (by rw [HA.out, HV.out, show decide (y.a = y.b) = false by first | exact lid_ne1 (by assumption) | exact lid_ne2 (by assumption)]; rfl)), Lib.hid ((hf2.out.trans (Fr.alloc _ _ _)).trans (HF3.out.trans HF4.out))⟩
                         case measure => simp [intOf]; omega)
                      | (go_ret
                         refine ⟨?_, F1.trans (((hf2.out.trans (Fr.alloc _ _ _)).trans HF3.out).trans HF4.out)⟩
                         have hab : y.a = y.b := lid_ext (by assumption) (by assumption)
                         rw [isHunkB, all_false (f := fun e : Edg => namedB id f x.adds.length e.a && (namedB id f x.adds.length e.b && !decide (e.a = e.b))) HZ.out (by simp [hab]), Bool.false_and, Bool.and_false, Bool.and_false, Bool.and_false, Bool.and_false]
                         rfl)
                  | false =>
                    have HV := Lib.hid hvb
                    clear hvb
                    have ha : (wr.alloc (.cells #[.int .u32 y.a.p, .int .i64 y.a.n, .int .u32 y.b.p, .int .i64 y.b.n] 59)).heap[wr.heap.size]? = _ := heap_last _ _
                    have NA := Lib.hid (HN.out _ y.a (hf2.out.trans (Fr.alloc _ wr (.cells #[.int .u32 y.a.p, .int .i64 y.a.n, .int .u32 y.b.p, .int .i64 y.b.n] 59))))
                    rw [HA.out] at NA
                    have NB := Lib.hid fun W hf => HN.out W y.b hf
                    rw [HV.out] at NB
                    have HC := Lib.hid ha
                    clear ha
                    go_wp2_with (first
                      | (go_at_call 126; with_reducible refine NA.out.mono ?_; rintro e w2 ⟨rfl, hf3⟩; have hc := hf3.heap (fun e => e) HC.out; have c0 := cell_of_heap hc 0; have c1 := cell_of_heap hc 1; have c2 := cell_of_heap hc 2; have c3 := cell_of_heap hc 3; have HC2 := Lib.hid hc; have HF3 := Lib.hid hf3; clear hc hf3 HC)
                      | (go_at_call 126; with_reducible refine (NB.out _ ((hf2.out.trans (Fr.alloc _ _ _)).trans HF3.out)).mono ?_; rintro e w3 ⟨rfl, hf4⟩; have hc := hf4.heap (fun e => e) HC2.out; have d0 := cell_of_heap hc 0; have d1 := cell_of_heap hc 1; have d2 := cell_of_heap hc 2; have d3 := cell_of_heap hc 3; have HF4 := Lib.hid hf4; clear hc hf4))
                    go_ret
                    refine ⟨?_, F1.trans (((hf2.out.trans (Fr.alloc _ _ _)).trans HF3.out).trans HF4.out)⟩
                    rw [isHunkB, all_false (f := fun e : Edg => namedB id f x.adds.length e.a && (namedB id f x.adds.length e.b && !decide (e.a = e.b))) HZ.out (by rw [HA.out, HV.out]; rfl), Bool.false_and, Bool.and_false, Bool.and_false, Bool.and_false, Bool.and_false]
                    rfl
                | false =>
                  have HA := Lib.hid hva
                  clear hva
                  have ha : (wr.alloc (.cells #[.int .u32 y.a.p, .int .i64 y.a.n, .int .u32 y.b.p, .int .i64 y.b.n] 59)).heap[wr.heap.size]? = _ := heap_last _ _
                  have NA := Lib.hid (HN.out _ y.a (hf2.out.trans (Fr.alloc _ wr (.cells #[.int .u32 y.a.p, .int .i64 y.a.n, .int .u32 y.b.p, .int .i64 y.b.n] 59))))
                  rw [HA.out] at NA
                  have HC := Lib.hid ha
                  clear ha
                  go_wp2_with (first
                      | (go_at_call 126; with_reducible refine NA.out.mono ?_; rintro e w2 ⟨rfl, hf3⟩; have HF3 := Lib.hid hf3; clear hf3))
                  go_ret
                  refine ⟨?_, F1.trans (((hf2.out.trans (Fr.alloc _ _ _)).trans HF3.out))⟩
                  rw [isHunkB, all_false (f := fun e : Edg => namedB id f x.adds.length e.a && (namedB id f x.adds.length e.b && !decide (e.a = e.b))) HZ.out (by rw [HA.out]; rfl), Bool.false_and, Bool.and_false, Bool.and_false, Bool.and_false, Bool.and_false]
                  rfl
              · have hall2 := Lib.hid (all_take hall2.out (by omega))
                have cm3 := (cell_of_heap cc 3)
                go_wp2
                clear hk hlt
                obtain ⟨wo, hwo⟩ : ∃ wo : World, wo = wr := ⟨_, rfl⟩
                rw [← hwo] at hf2 ⊢
                clear hwo cc cm cm3
                go_loopw [72] (fun i wq => ∃ k : Nat, i = .int .i64 k ∧ k ≤ x.kills.length ∧ Hid ((x.kills.take k).all (fun k => namedB id f x.adds.length k && !decide (k.p = id)) = true) ∧ Hid (Fr No W1 wq)) (fun i _ => x.kills.length - (intOf i).toNat)
                case atStart => exact ⟨0, rfl, Nat.zero_le _, Lib.hid (by simp), hf2⟩
                case round =>
                  clear hf2
                  obtain ⟨k, rfl, hk, hall3, hf2⟩ := hrel
                  by_cases hlt : k < x.kills.length
                  · obtain ⟨b, o, y, hbo, hz, k0, k1⟩ := at_lid (H1.out.kills.fr hf2.out) k hlt
                    rw [hbo]
                    have HZ := Lib.hid hz
                    clear hz
                    have ha : (wr.alloc (.cells #[.int .u32 y.p, .int .i64 y.n] 45)).heap[wr.heap.size]? = _ := heap_last _ _
                    have NA := Lib.hid (HN.out _ y (hf2.out.trans (Fr.alloc _ wr (.cells #[.int .u32 y.p, .int .i64 y.n] 45))))
                    have HC := Lib.hid ha
                    clear ha
                    cases hva : namedB id f x.adds.length y with
                    | true =>
                      have HA := Lib.hid hva
                      rw [hva] at NA
                      clear hva
                      cases hvb : decide (y.p = id) with
                      | true =>
                        have HV := Lib.hid hvb
                        have ht : ((y.p : Int) == (id : Int)) = true := (nat_eq _ _).trans hvb
                        clear hvb
                        go_wp2_with (go_at_call 126; with_reducible refine NA.out.mono ?_; rintro e w2 ⟨rfl, hf3⟩; have hc := hf3.heap (fun e => e) HC.out; have c0 := cell_of_heap hc 0; have c1 := cell_of_heap hc 1; have e0 := (HB.out.1.fr ((hf2.out.trans (Fr.alloc _ _ _)).trans hf3) (fun e => e)).cell; have HF3 := Lib.hid hf3; clear hc hf3)
                        go_ret
                        refine ⟨?_, F1.trans ((hf2.out.trans (Fr.alloc _ _ _)).trans HF3.out)⟩
                        rw [isHunkB, all_false (f := fun k : LId => namedB id f x.adds.length k && !decide (k.p = id)) HZ.out (by rw [HA.out, HV.out]; rfl), Bool.false_and, Bool.and_false, Bool.and_false, Bool.and_false, Bool.and_false, Bool.and_false]
                        rfl
                      | false =>
                        have HV := Lib.hid hvb
                        have ht : ((y.p : Int) == (id : Int)) = false := (nat_eq _ _).trans hvb
                        clear hvb
                        go_wp2_with (go_at_call 126; with_reducible refine NA.out.mono ?_; rintro e w2 ⟨rfl, hf3⟩; have hc := hf3.heap (fun e => e) HC.out; have c0 := cell_of_heap hc 0; have c1 := cell_of_heap hc 1; have e0 := (HB.out.1.fr ((hf2.out.trans (Fr.alloc _ _ _)).trans hf3) (fun e => e)).cell; have HF3 := Lib.hid hf3; clear hc hf3)
                        go_roundw
                        case rel => exact ⟨k + 1, by go_num, by omega, Lib.hid (all_take_succ hall3.out HZ.out (by rw [HA.out, HV.out]; rfl)), Lib.hid ((hf2.out.trans (Fr.alloc _ _ _)).trans HF3.out)⟩
                        case measure => simp [intOf]; omega
                    | false =>
                      have HA := Lib.hid hva
                      rw [hva] at NA
                      clear hva
                      go_wp2_with (go_at_call 126; with_reducible refine NA.out.mono ?_; rintro e w2 ⟨rfl, hf3⟩; have HF3 := Lib.hid hf3; clear hf3)
                      go_ret
                      refine ⟨?_, F1.trans ((hf2.out.trans (Fr.alloc _ _ _)).trans HF3.out)⟩
                      rw [isHunkB, all_false (f := fun k : LId => namedB id f x.adds.length k && !decide (k.p = id)) HZ.out (by rw [HA.out]; rfl), Bool.false_and, Bool.and_false, Bool.and_false, Bool.and_false, Bool.and_false, Bool.and_false]
                      rfl
                  · have hall3 := Lib.hid (all_take hall3.out (by omega))
                    have cc := hf2.out.heap (fun e => e) HB.out.2
                    have cm := (cell_of_heap cc 2)
                    have hres : ∀ v, v = (Rises edgLt x.edges && Rises lidLt x.kills) → isHunkB id f x = v := fun v hv => by
                      rw [hv, isHunkB, hall1.out, hall2.out, hall3.out]; simp [HG.out.1, HG.out.2.1, HG.out.2.2]
                    have HRES := Lib.hid hres
                    clear hres hall1 hall2 hall3
                    cases hr : Rises edgLt x.edges with
                    | true =>
                      have HR := Lib.hid hr
                      rw [hr] at HRES
                      clear hr
                      go_wp2_with (first
                        | (go_at_call 128; refine (risesEdg (H1.out.edges.fr hf2.out)).mono ?_; rw [HR.out]; rintro e w2 ⟨rfl, hf3⟩; have cm3 := cell_of_heap (hf3.heap (fun e => e) cc) 3; have HF3 := Lib.hid hf3; clear hf3)
                        | (go_at_call 130; refine (risesLid (H1.out.kills.fr (hf2.out.trans HF3.out))).mono ?_; rintro e w3 ⟨rfl, hf4⟩))
                      go_ret
                      exact ⟨by rw [HRES.out _ rfl]; simp, F1.trans ((hf2.out.trans HF3.out).trans hf4)⟩
                    | false =>
                      have HR := Lib.hid hr
                      rw [hr] at HRES
                      clear hr
                      go_wp2_with (first
                        | (go_at_call 128; refine (risesEdg (H1.out.edges.fr hf2.out)).mono ?_; rw [HR.out]; rintro e w2 ⟨rfl, hf3⟩))
                      go_ret
                      exact ⟨by rw [HRES.out _ rfl]; simp, F1.trans (hf2.out.trans hf3)⟩
      · go_wp2
        go_ret
        refine ⟨?_, F1⟩
        rw [isHunkB, show decide (x.kills.length ≤ 40) = false by simp; omega, Bool.false_and, Bool.and_false, Bool.and_false]
        rfl
    · go_wp2
      go_ret
      refine ⟨?_, F1⟩
      rw [isHunkB, show decide (x.edges.length ≤ 80) = false by simp; omega, Bool.false_and, Bool.and_false]
      rfl
  · go_wp2
    go_ret
    refine ⟨?_, F1⟩
    rw [isHunkB, show decide (x.adds.length ≤ 40) = false by simp; omega, Bool.false_and]
    rfl
end Go.Proofs.YthnfkjcndidoaaaGreatDoor
