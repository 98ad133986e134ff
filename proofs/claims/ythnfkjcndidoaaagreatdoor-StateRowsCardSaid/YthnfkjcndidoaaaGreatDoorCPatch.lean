import Derived.Test.YthnfkjcndidoaaaGreatDoorCCmp
import Derived.Test.YthnfkjcndidoaaaGreatDoorCFew
set_option linter.unusedVariables false
set_option linter.unusedSimpArgs false
namespace Go.Proofs.YthnfkjcndidoaaaGreatDoor
open Go.RowKit Go.Shelf

/-! ### Rising lists -/
def Rises {α : Type} (lt : α → α → Bool) : List α → Bool
  | x :: y :: r => lt x y && Rises lt (y :: r)
  | _ => true
theorem rises_false {α : Type} (lt : α → α → Bool) : ∀ (l : List α) (i : Nat) (x y : α), l[i]? = some x → l[i + 1]? = some y → lt x y = false → Rises lt l = false
  | [], i, x, y, h, _, _ => by simp at h
  | [a], i, x, y, _, h, _ => by simp at h
  | a :: b :: r, 0, x, y, h1, h2, h3 => by
    simp at h1 h2
    subst h1 h2
    simp [Rises, h3]
  | a :: b :: r, i + 1, x, y, h1, h2, h3 => by
    simp only [List.getElem?_cons_succ] at h1 h2
    simp only [Rises, Bool.and_eq_false_iff]
    exact .inr (rises_false lt (b :: r) i x y h1 (by simpa using h2) h3)
theorem rises_true {α : Type} (lt : α → α → Bool) : ∀ (l : List α), (∀ (i : Nat) (x y : α), l[i]? = some x → l[i + 1]? = some y → lt x y = true) → Rises lt l = true
  | [], _ => rfl
  | [a], _ => rfl
  | a :: b :: r, h => by
    simp only [Rises, Bool.and_eq_true]
    exact ⟨h 0 a b rfl rfl, rises_true lt (b :: r) (fun i x y h1 h2 => h (i + 1) x y (by simpa using h1) (by simpa using h2))⟩
/-- The first k are told to rise. -/
def RisesTo {α : Type} (lt : α → α → Bool) (l : List α) (k : Nat) : Prop := ∀ (i : Nat) (x y : α), i < k → l[i]? = some x → l[i + 1]? = some y → lt x y = true
theorem risesTo_zero {α : Type} (lt : α → α → Bool) (l : List α) : RisesTo lt l 0 := fun i _ _ h => by omega
theorem risesTo_succ {α : Type} {lt : α → α → Bool} {l : List α} {k : Nat} (h : RisesTo lt l k) {x y : α} (hx : l[k]? = some x) (hy : l[k + 1]? = some y) (hl : lt x y = true) : RisesTo lt l (k + 1) := by
  intro i u v hi hu hv
  by_cases e : i = k
  · subst e
    rw [hx] at hu
    rw [hy] at hv
    cases hu; cases hv
    exact hl
  · exact h i u v (by omega) hu hv
theorem risesTo_all {α : Type} {lt : α → α → Bool} {l : List α} {k : Nat} (h : RisesTo lt l k) (hk : l.length ≤ k + 1) : Rises lt l = true :=
  rises_true lt l fun i x y hx hy => h i x y (by have := (List.getElem?_eq_some_iff.1 hy).1; omega) hx hy

def lidLt (a b : LId) : Bool := decide (cmpL a b < 0)
def edgLt (a b : Edg) : Bool := decide (cmpE a b < 0)
theorem cmpI_neg (x y : Int) : cmpI x y < 0 ↔ x < y := by unfold cmpI; split <;> (try split) <;> simp <;> omega
theorem cmpS_neg (x y : ByteArray) : cmpS x y < 0 ↔ strLt x y = true := by
  unfold cmpS
  cases h : strLt x y
  · simp; split <;> simp
  · simp
def natLt (x y : Nat) : Bool := decide (x < y)

theorem cmpL_neg (a b : LId) : cmpL a b < 0 ↔ lidLt a b = true := by simp [lidLt]
theorem cmpE_neg (a b : Edg) : cmpE a b < 0 ↔ edgLt a b = true := by simp [edgLt]
def cmpN (x y : Nat) : Int := cmpI x y
theorem cmpN_neg (x y : Nat) : cmpN x y < 0 ↔ natLt x y = true := by unfold cmpN; rw [cmpI_neg]; simp [natLt]
theorem cmpStrF (w : World) (x y : ByteArray) : Calls Tryz.prog 118 #[.string x, .string y] w fun e w' => e = .returned (.int .i64 (cmpS x y)) ∧ Fr No w w' := (cmpStr w x y).mono (fun _ _ ⟨h1, h2⟩ => ⟨h1, h2 ▸ Fr.refl _ _⟩)
theorem cmpU32F (w : World) (x y : Nat) : Calls Tryz.prog 99 #[.int .u32 x, .int .u32 y] w fun e w' => e = .returned (.int .i64 (cmpN x y)) ∧ Fr No w w' := (cmpU32 w x y).mono (fun _ _ ⟨h1, h2⟩ => ⟨h1, h2 ▸ Fr.refl _ _⟩)
set_option maxHeartbeats 1000000 in
set_option maxRecDepth 100000 in
theorem risesStr {w : World} {A : Option Addr} {c : Nat} {l : List ByteArray} (h : SlIs rStr w (.slice A l.length c) l) : Calls Tryz.prog 117 #[.slice A l.length c, .func (.func 118) #[] #[]] w fun e w' => e = .returned (.bool (Rises strLt l)) ∧ Fr No w w' := by
  have H := Lib.hid h
  obtain ⟨_, _, _, _, hb⟩ := h.form
  clear h
  go_enter Tryz.func117, Tryz.ntmps117
  go_wp2
  go_loopw [5] (fun i wr => ∃ k : Nat, i = .int .i64 (k + 1 : Nat) ∧ (k = 0 ∨ k + 1 ≤ l.length) ∧ Hid (RisesTo strLt l k) ∧ Hid (Fr No w wr)) (fun i _ => l.length - (intOf i).toNat)
  case atStart => exact ⟨0, by simp, .inl rfl, Lib.hid (risesTo_zero _ _), Lib.hid (Fr.refl _ _)⟩
  case round =>
    obtain ⟨k, rfl, hk, hall, hf⟩ := hrel
    by_cases hlt : k + 1 < l.length
    · obtain ⟨b, o, x, hA, hx, k0⟩ := at_str (H.out.fr hf.out) k (by omega)
      obtain ⟨b', o', y, hA', hy, m0⟩ := at_str (H.out.fr hf.out) (k + 1) hlt
      subst hA
      cases hA'
      have HX := Lib.hid hx
      have HY := Lib.hid hy
      have hi0 : (0 : Int) ≤ (k : Int) := Int.natCast_nonneg _
      have hi1 : (k : Int) < (l.length : Int) := by omega
      have hi2 : (k : Int) + 1 < (l.length : Int) := by omega
      have hi3 : (0 : Int) ≤ (k : Int) + 1 := by omega
      have hw1 : IntKind.i64.wrap ((k : Int) + 1 - 1) = k := by rw [IntKind.wrap_i64]; omega
      have hw3 : IntKind.i64.wrap (k : Int) = k := by rw [IntKind.wrap_i64]; omega
      have hw2 : ((k : Int) + 1).toNat = k + 1 := by omega
      clear hx hy hk
      cases hv : strLt x y with
      | true =>
        have hc : decide (0 ≤ cmpS x y) = false := by
          have := (cmpS_neg x y).2 hv
          simp; omega
        have HV := Lib.hid hv
        clear hv
        go_wp2_with fail
        go_region_held3 (fun w' => w'.cell? ⟨b, o + k, none⟩ = some (.string x) ∧ w'.cell? ⟨b, o + (k + 1), none⟩ = some (.string y)) (first | go_keep | (go_split_ands; refine ⟨hf1.cell (fun e => e) (by assumption), hf1.cell (fun e => e) (by assumption)⟩))
          (first | (go_at_call 118; refine (cmpStrF _ x y).mono ?_; rintro e w2 ⟨rfl, hf1⟩))
        have HF := Lib.hid (hf.out.trans hf1.undrew)
        clear hf1 hw1 hw2 hw3
        go_wp2
        refine ⟨⟨k + 1, by go_num, .inr (by omega), Lib.hid (risesTo_succ hall.out HX.out HY.out HV.out), HF⟩, by simp [intOf]; omega⟩
      | false =>
        have hc : decide (0 ≤ cmpS x y) = true := by
          have : ¬ cmpS x y < 0 := fun e => by rw [(cmpS_neg x y).1 e] at hv; cases hv
          simp; omega
        have HV := Lib.hid hv
        clear hv
        go_wp2_with fail
        go_region_held3 (fun w' => w'.cell? ⟨b, o + k, none⟩ = some (.string x) ∧ w'.cell? ⟨b, o + (k + 1), none⟩ = some (.string y)) (first | go_keep | (go_split_ands; refine ⟨hf1.cell (fun e => e) (by assumption), hf1.cell (fun e => e) (by assumption)⟩))
          (first | (go_at_call 118; refine (cmpStrF _ x y).mono ?_; rintro e w2 ⟨rfl, hf1⟩))
        have HF := Lib.hid (hf.out.trans hf1.undrew)
        clear hf1 hw1 hw2 hw3
        go_wp2
        go_ret
        exact ⟨by rw [rises_false strLt l k x y HX.out HY.out HV.out]; rfl, HF.out⟩
    · go_wp2
      go_ret
      exact ⟨by rw [risesTo_all hall.out (by omega)]; rfl, hf.out⟩
set_option maxHeartbeats 1000000 in
set_option maxRecDepth 100000 in
theorem risesU32 {w : World} {A : Option Addr} {c : Nat} {l : List Nat} (h : SlIs rU32 w (.slice A l.length c) l) : Calls Tryz.prog 120 #[.slice A l.length c, .func (.func 99) #[] #[]] w fun e w' => e = .returned (.bool (Rises natLt l)) ∧ Fr No w w' := by
  have H := Lib.hid h
  obtain ⟨_, _, _, _, hb⟩ := h.form
  clear h
  go_enter Tryz.func120, Tryz.ntmps120
  go_wp2
  go_loopw [5] (fun i wr => ∃ k : Nat, i = .int .i64 (k + 1 : Nat) ∧ (k = 0 ∨ k + 1 ≤ l.length) ∧ Hid (RisesTo natLt l k) ∧ Hid (Fr No w wr)) (fun i _ => l.length - (intOf i).toNat)
  case atStart => exact ⟨0, by simp, .inl rfl, Lib.hid (risesTo_zero _ _), Lib.hid (Fr.refl _ _)⟩
  case round =>
    obtain ⟨k, rfl, hk, hall, hf⟩ := hrel
    by_cases hlt : k + 1 < l.length
    · obtain ⟨b, o, x, hA, hx, k0⟩ := at_u32 (H.out.fr hf.out) k (by omega)
      obtain ⟨b', o', y, hA', hy, m0⟩ := at_u32 (H.out.fr hf.out) (k + 1) hlt
      subst hA
      cases hA'
      have HX := Lib.hid hx
      have HY := Lib.hid hy
      have hi0 : (0 : Int) ≤ (k : Int) := Int.natCast_nonneg _
      have hi1 : (k : Int) < (l.length : Int) := by omega
      have hi2 : (k : Int) + 1 < (l.length : Int) := by omega
      have hi3 : (0 : Int) ≤ (k : Int) + 1 := by omega
      have hw1 : IntKind.i64.wrap ((k : Int) + 1 - 1) = k := by rw [IntKind.wrap_i64]; omega
      have hw3 : IntKind.i64.wrap (k : Int) = k := by rw [IntKind.wrap_i64]; omega
      have hw2 : ((k : Int) + 1).toNat = k + 1 := by omega
      clear hx hy hk
      cases hv : natLt x y with
      | true =>
        have hc : decide (0 ≤ cmpN x y) = false := by
          have := (cmpN_neg x y).2 hv
          simp; omega
        have HV := Lib.hid hv
        clear hv
        go_wp2_with fail
        go_region_held3 (fun w' => w'.cell? ⟨b, o + k, none⟩ = some (.int .u32 x) ∧ w'.cell? ⟨b, o + (k + 1), none⟩ = some (.int .u32 y)) (first | go_keep | (go_split_ands; refine ⟨hf1.cell (fun e => e) (by assumption), hf1.cell (fun e => e) (by assumption)⟩))
          (first | (go_at_call 99; refine (cmpU32F _ x y).mono ?_; rintro e w2 ⟨rfl, hf1⟩))
        have HF := Lib.hid (hf.out.trans hf1.undrew)
        clear hf1 hw1 hw2 hw3
        go_wp2
        refine ⟨⟨k + 1, by go_num, .inr (by omega), Lib.hid (risesTo_succ hall.out HX.out HY.out HV.out), HF⟩, by simp [intOf]; omega⟩
      | false =>
        have hc : decide (0 ≤ cmpN x y) = true := by
          have : ¬ cmpN x y < 0 := fun e => by rw [(cmpN_neg x y).1 e] at hv; cases hv
          simp; omega
        have HV := Lib.hid hv
        clear hv
        go_wp2_with fail
        go_region_held3 (fun w' => w'.cell? ⟨b, o + k, none⟩ = some (.int .u32 x) ∧ w'.cell? ⟨b, o + (k + 1), none⟩ = some (.int .u32 y)) (first | go_keep | (go_split_ands; refine ⟨hf1.cell (fun e => e) (by assumption), hf1.cell (fun e => e) (by assumption)⟩))
          (first | (go_at_call 99; refine (cmpU32F _ x y).mono ?_; rintro e w2 ⟨rfl, hf1⟩))
        have HF := Lib.hid (hf.out.trans hf1.undrew)
        clear hf1 hw1 hw2 hw3
        go_wp2
        go_ret
        exact ⟨by rw [rises_false natLt l k x y HX.out HY.out HV.out]; rfl, HF.out⟩
    · go_wp2
      go_ret
      exact ⟨by rw [risesTo_all hall.out (by omega)]; rfl, hf.out⟩
set_option maxHeartbeats 1000000 in
set_option maxRecDepth 100000 in
theorem risesLid {w : World} {A : Option Addr} {c : Nat} {l : List LId} (h : SlIs rLId w (.slice A l.length c) l) : Calls Tryz.prog 130 #[.slice A l.length c, .func (.func 64) #[] #[]] w fun e w' => e = .returned (.bool (Rises lidLt l)) ∧ Fr No w w' := by
  have H := Lib.hid h
  obtain ⟨_, _, _, _, hb⟩ := h.form
  clear h
  go_enter Tryz.func130, Tryz.ntmps130
  go_wp2
  go_loopw [5] (fun i wr => ∃ k : Nat, i = .int .i64 (k + 1 : Nat) ∧ (k = 0 ∨ k + 1 ≤ l.length) ∧ Hid (RisesTo lidLt l k) ∧ Hid (Fr No w wr)) (fun i _ => l.length - (intOf i).toNat)
  case atStart => exact ⟨0, by simp, .inl rfl, Lib.hid (risesTo_zero _ _), Lib.hid (Fr.refl _ _)⟩
  case round =>
    obtain ⟨k, rfl, hk, hall, hf⟩ := hrel
    by_cases hlt : k + 1 < l.length
    · obtain ⟨b, o, x, hA, hx, k0, k1⟩ := at_lid (H.out.fr hf.out) k (by omega)
      obtain ⟨b', o', y, hA', hy, m0, m1⟩ := at_lid (H.out.fr hf.out) (k + 1) hlt
      subst hA
      cases hA'
      have HX := Lib.hid hx
      have HY := Lib.hid hy
      have hi0 : (0 : Int) ≤ (k : Int) := Int.natCast_nonneg _
      have hi1 : (k : Int) < (l.length : Int) := by omega
      have hi2 : (k : Int) + 1 < (l.length : Int) := by omega
      have hi3 : (0 : Int) ≤ (k : Int) + 1 := by omega
      have hw1 : IntKind.i64.wrap ((k : Int) + 1 - 1) = k := by rw [IntKind.wrap_i64]; omega
      have hw3 : IntKind.i64.wrap (k : Int) = k := by rw [IntKind.wrap_i64]; omega
      have hw2 : ((k : Int) + 1).toNat = k + 1 := by omega
      clear hx hy hk
      cases hv : lidLt x y with
      | true =>
        have hc : decide (0 ≤ cmpL x y) = false := by
          have := (cmpL_neg x y).2 hv
          simp; omega
        have HV := Lib.hid hv
        clear hv
        go_wp2_with fail
        go_region_held3 (fun w' => w'.cell? ⟨b, o + k * 2, none⟩ = some (.int .u32 x.p) ∧ w'.cell? ⟨b, o + k * 2 + 1, none⟩ = some (.int .i64 x.n) ∧ w'.cell? ⟨b, o + (k + 1) * 2, none⟩ = some (.int .u32 y.p) ∧ w'.cell? ⟨b, o + (k + 1) * 2 + 1, none⟩ = some (.int .i64 y.n)) (first | go_keep | (go_split_ands; refine ⟨hf1.cell (fun e => e) (by assumption), hf1.cell (fun e => e) (by assumption), hf1.cell (fun e => e) (by assumption), hf1.cell (fun e => e) (by assumption)⟩))
          (first | (go_at_call 64; refine (cmpLine _ x y).mono ?_; rintro e w2 ⟨rfl, hf1⟩))
        have HF := Lib.hid (hf.out.trans hf1.undrew)
        clear hf1 hw1 hw2 hw3
        go_wp2
        refine ⟨⟨k + 1, by go_num, .inr (by omega), Lib.hid (risesTo_succ hall.out HX.out HY.out HV.out), HF⟩, by simp [intOf]; omega⟩
      | false =>
        have hc : decide (0 ≤ cmpL x y) = true := by
          have : ¬ cmpL x y < 0 := fun e => by rw [(cmpL_neg x y).1 e] at hv; cases hv
          simp; omega
        have HV := Lib.hid hv
        clear hv
        go_wp2_with fail
        go_region_held3 (fun w' => w'.cell? ⟨b, o + k * 2, none⟩ = some (.int .u32 x.p) ∧ w'.cell? ⟨b, o + k * 2 + 1, none⟩ = some (.int .i64 x.n) ∧ w'.cell? ⟨b, o + (k + 1) * 2, none⟩ = some (.int .u32 y.p) ∧ w'.cell? ⟨b, o + (k + 1) * 2 + 1, none⟩ = some (.int .i64 y.n)) (first | go_keep | (go_split_ands; refine ⟨hf1.cell (fun e => e) (by assumption), hf1.cell (fun e => e) (by assumption), hf1.cell (fun e => e) (by assumption), hf1.cell (fun e => e) (by assumption)⟩))
          (first | (go_at_call 64; refine (cmpLine _ x y).mono ?_; rintro e w2 ⟨rfl, hf1⟩))
        have HF := Lib.hid (hf.out.trans hf1.undrew)
        clear hf1 hw1 hw2 hw3
        go_wp2
        go_ret
        exact ⟨by rw [rises_false lidLt l k x y HX.out HY.out HV.out]; rfl, HF.out⟩
    · go_wp2
      go_ret
      exact ⟨by rw [risesTo_all hall.out (by omega)]; rfl, hf.out⟩
set_option maxHeartbeats 1000000 in
set_option maxRecDepth 100000 in
theorem risesEdg {w : World} {A : Option Addr} {c : Nat} {l : List Edg} (h : SlIs rEdg w (.slice A l.length c) l) : Calls Tryz.prog 128 #[.slice A l.length c, .func (.func 129) #[] #[]] w fun e w' => e = .returned (.bool (Rises edgLt l)) ∧ Fr No w w' := by
  have H := Lib.hid h
  obtain ⟨_, _, _, _, hb⟩ := h.form
  clear h
  go_enter Tryz.func128, Tryz.ntmps128
  go_wp2
  go_loopw [5] (fun i wr => ∃ k : Nat, i = .int .i64 (k + 1 : Nat) ∧ (k = 0 ∨ k + 1 ≤ l.length) ∧ Hid (RisesTo edgLt l k) ∧ Hid (Fr No w wr)) (fun i _ => l.length - (intOf i).toNat)
  case atStart => exact ⟨0, by simp, .inl rfl, Lib.hid (risesTo_zero _ _), Lib.hid (Fr.refl _ _)⟩
  case round =>
    obtain ⟨k, rfl, hk, hall, hf⟩ := hrel
    by_cases hlt : k + 1 < l.length
    · obtain ⟨b, o, x, hA, hx, k0, k1, k2, k3⟩ := at_edg (H.out.fr hf.out) k (by omega)
      obtain ⟨b', o', y, hA', hy, m0, m1, m2, m3⟩ := at_edg (H.out.fr hf.out) (k + 1) hlt
      subst hA
      cases hA'
      have HX := Lib.hid hx
      have HY := Lib.hid hy
      have hi0 : (0 : Int) ≤ (k : Int) := Int.natCast_nonneg _
      have hi1 : (k : Int) < (l.length : Int) := by omega
      have hi2 : (k : Int) + 1 < (l.length : Int) := by omega
      have hi3 : (0 : Int) ≤ (k : Int) + 1 := by omega
      have hw1 : IntKind.i64.wrap ((k : Int) + 1 - 1) = k := by rw [IntKind.wrap_i64]; omega
      have hw3 : IntKind.i64.wrap (k : Int) = k := by rw [IntKind.wrap_i64]; omega
      have hw2 : ((k : Int) + 1).toNat = k + 1 := by omega
      clear hx hy hk
      cases hv : edgLt x y with
      | true =>
        have hc : decide (0 ≤ cmpE x y) = false := by
          have := (cmpE_neg x y).2 hv
          simp; omega
        have HV := Lib.hid hv
        clear hv
        go_wp2_with fail
        go_region_held3 (fun w' => w'.cell? ⟨b, o + k * 4, none⟩ = some (.int .u32 x.a.p) ∧ w'.cell? ⟨b, o + k * 4 + 1, none⟩ = some (.int .i64 x.a.n) ∧ w'.cell? ⟨b, o + k * 4 + 2, none⟩ = some (.int .u32 x.b.p) ∧ w'.cell? ⟨b, o + k * 4 + 3, none⟩ = some (.int .i64 x.b.n) ∧ w'.cell? ⟨b, o + (k + 1) * 4, none⟩ = some (.int .u32 y.a.p) ∧ w'.cell? ⟨b, o + (k + 1) * 4 + 1, none⟩ = some (.int .i64 y.a.n) ∧ w'.cell? ⟨b, o + (k + 1) * 4 + 2, none⟩ = some (.int .u32 y.b.p) ∧ w'.cell? ⟨b, o + (k + 1) * 4 + 3, none⟩ = some (.int .i64 y.b.n)) (first | go_keep | (go_split_ands; refine ⟨hf1.cell (fun e => e) (by assumption), hf1.cell (fun e => e) (by assumption), hf1.cell (fun e => e) (by assumption), hf1.cell (fun e => e) (by assumption), hf1.cell (fun e => e) (by assumption), hf1.cell (fun e => e) (by assumption), hf1.cell (fun e => e) (by assumption), hf1.cell (fun e => e) (by assumption)⟩))
          (first | (go_at_call 129; refine (cmpEdge _ x y).mono ?_; rintro e w2 ⟨rfl, hf1⟩))
        have HF := Lib.hid (hf.out.trans hf1.undrew)
        clear hf1 hw1 hw2 hw3
        go_wp2
        refine ⟨⟨k + 1, by go_num, .inr (by omega), Lib.hid (risesTo_succ hall.out HX.out HY.out HV.out), HF⟩, by simp [intOf]; omega⟩
      | false =>
        have hc : decide (0 ≤ cmpE x y) = true := by
          have : ¬ cmpE x y < 0 := fun e => by rw [(cmpE_neg x y).1 e] at hv; cases hv
          simp; omega
        have HV := Lib.hid hv
        clear hv
        go_wp2_with fail
        go_region_held3 (fun w' => w'.cell? ⟨b, o + k * 4, none⟩ = some (.int .u32 x.a.p) ∧ w'.cell? ⟨b, o + k * 4 + 1, none⟩ = some (.int .i64 x.a.n) ∧ w'.cell? ⟨b, o + k * 4 + 2, none⟩ = some (.int .u32 x.b.p) ∧ w'.cell? ⟨b, o + k * 4 + 3, none⟩ = some (.int .i64 x.b.n) ∧ w'.cell? ⟨b, o + (k + 1) * 4, none⟩ = some (.int .u32 y.a.p) ∧ w'.cell? ⟨b, o + (k + 1) * 4 + 1, none⟩ = some (.int .i64 y.a.n) ∧ w'.cell? ⟨b, o + (k + 1) * 4 + 2, none⟩ = some (.int .u32 y.b.p) ∧ w'.cell? ⟨b, o + (k + 1) * 4 + 3, none⟩ = some (.int .i64 y.b.n)) (first | go_keep | (go_split_ands; refine ⟨hf1.cell (fun e => e) (by assumption), hf1.cell (fun e => e) (by assumption), hf1.cell (fun e => e) (by assumption), hf1.cell (fun e => e) (by assumption), hf1.cell (fun e => e) (by assumption), hf1.cell (fun e => e) (by assumption), hf1.cell (fun e => e) (by assumption), hf1.cell (fun e => e) (by assumption)⟩))
          (first | (go_at_call 129; refine (cmpEdge _ x y).mono ?_; rintro e w2 ⟨rfl, hf1⟩))
        have HF := Lib.hid (hf.out.trans hf1.undrew)
        clear hf1 hw1 hw2 hw3
        go_wp2
        go_ret
        exact ⟨by rw [rises_false edgLt l k x y HX.out HY.out HV.out]; rfl, HF.out⟩
    · go_wp2
      go_ret
      exact ⟨by rw [risesTo_all hall.out (by omega)]; rfl, hf.out⟩
end Go.Proofs.YthnfkjcndidoaaaGreatDoor
