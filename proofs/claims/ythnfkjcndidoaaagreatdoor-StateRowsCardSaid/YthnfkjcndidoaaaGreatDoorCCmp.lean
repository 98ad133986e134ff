import Derived.Test.YthnfkjcndidoaaaGreatDoorCData
import Derived.Test.YthnfkjcndidoaaaGreatDoorCBits
import Derived.Deep.RegionHeld3
import Derived.OwnWalk
set_option linter.unusedVariables false
set_option linter.unusedSimpArgs false
namespace Go.Proofs.YthnfkjcndidoaaaGreatDoor
open Go.RowKit Go.Shelf

def cmpI (x y : Int) : Int := if x < y then -1 else if y < x then 1 else 0
theorem cmpU32 (w : World) (x y : Int) : Calls Tryz.prog 99 #[.int .u32 x, .int .u32 y] w fun e w' => e = .returned (.int .i64 (cmpI x y)) ∧ w = w' := by
  rcases Int.lt_trichotomy x y with h | h | h
  all_goals
    have hr : ∀ v, cmpI x y = v → Hid (cmpI x y = v) := fun v h => h
    first
    | replace hr := hr (-1) (by unfold cmpI; omega)
    | replace hr := hr 0 (by unfold cmpI; omega)
    | replace hr := hr 1 (by unfold cmpI; omega)
    go_enter Tryz.func99, Tryz.ntmps99
    go_wp2
    go_ret
    exact ⟨by rw [hr.out]; rfl, rfl⟩
theorem cmpInt (w : World) (x y : Int) : Calls Tryz.prog 100 #[.int .i64 x, .int .i64 y] w fun e w' => e = .returned (.int .i64 (cmpI x y)) ∧ w = w' := by
  rcases Int.lt_trichotomy x y with h | h | h
  all_goals
    have hr : ∀ v, cmpI x y = v → Hid (cmpI x y = v) := fun v h => h
    first
    | replace hr := hr (-1) (by unfold cmpI; omega)
    | replace hr := hr 0 (by unfold cmpI; omega)
    | replace hr := hr 1 (by unfold cmpI; omega)
    go_enter Tryz.func100, Tryz.ntmps100
    go_wp2
    go_ret
    exact ⟨by rw [hr.out]; rfl, rfl⟩
/-- The order of strings: byte by byte. -/
def strLt (x y : ByteArray) : Bool := Op.bytesLess x.toList y.toList
def cmpS (x y : ByteArray) : Int := if strLt x y then -1 else if strLt y x then 1 else 0
theorem bl_irrefl : ∀ a : List UInt8, Op.bytesLess a a = false
  | [] => rfl
  | x :: a => by simp [Op.bytesLess, bl_irrefl a]
theorem bl_tri : ∀ a b : List UInt8, Op.bytesLess a b = false → a ≠ b → Op.bytesLess b a = true
  | [], [], _, h => (h rfl).elim
  | [], y :: b, h, _ => by simp [Op.bytesLess] at h
  | x :: a, [], _, _ => by simp [Op.bytesLess]
  | x :: a, y :: b, h, hne => by
    simp only [Op.bytesLess, Bool.or_eq_false_iff, Bool.and_eq_false_iff, decide_eq_false_iff_not, beq_eq_false_iff_ne] at h
    simp only [Op.bytesLess, Bool.or_eq_true, decide_eq_true_eq, Bool.and_eq_true, beq_iff_eq]
    by_cases e : x = y
    · subst e
      rcases h.2 with h2 | h2
      · exact (h2 rfl).elim
      · exact .inr ⟨rfl, bl_tri a b h2 (fun e => hne (by rw [e]))⟩
    · left
      have := h.1
      rw [UInt8.not_lt] at this
      exact UInt8.lt_of_le_of_ne this (fun e' => e e'.symm)
theorem bytes_ext {x y : ByteArray} (h : x.toList = y.toList) : x = y := by
  have h1 : x.data.toList = x.toList := by rw [ByteArray.toList_eq]
  have h2 : y.data.toList = y.toList := by rw [ByteArray.toList_eq]
  cases x; cases y
  simp only [ByteArray.mk.injEq]
  exact Array.toList_inj.1 (by simpa [h1, h2] using h1.trans (h.trans h2.symm))
theorem cmpStr (w : World) (x y : ByteArray) : Calls Tryz.prog 118 #[.string x, .string y] w fun e w' => e = .returned (.int .i64 (cmpS x y)) ∧ w = w' := by
  cases h1 : Op.bytesLess x.toList y.toList with
  | true =>
    have hr := Lib.hid (show cmpS x y = -1 from by unfold cmpS strLt; rw [h1]; rfl)
    go_enter Tryz.func118, Tryz.ntmps118
    go_wp2
    go_ret
    exact ⟨by rw [hr.out]; rfl, rfl⟩
  | false =>
    by_cases h3 : x.toList = y.toList
    · have h2 : Op.bytesLess y.toList x.toList = false := by rw [h3]; exact bl_irrefl _
      have hr := Lib.hid (show cmpS x y = 0 from by unfold cmpS strLt; rw [h1, h2]; rfl)
      have h4 : (x.toList == y.toList) = true := by simp [h3]
      clear h3 h2
      go_enter Tryz.func118, Tryz.ntmps118
      go_wp2
      go_ret
      exact ⟨by rw [hr.out]; rfl, rfl⟩
    · have h2 := bl_tri _ _ h1 h3
      have hr := Lib.hid (show cmpS x y = 1 from by unfold cmpS strLt; rw [h1, h2]; rfl)
      have h4 : (x.toList == y.toList) = false := by simp [h3]
      clear h3 h2
      go_enter Tryz.func118, Tryz.ntmps118
      go_wp2
      go_ret
      exact ⟨by rw [hr.out]; rfl, rfl⟩

/-- The first that is not 0. -/
def orI (a b : Int) : Int := if a = 0 then b else a
theorem or2 {w : World} {b o c : Nat} {x y : Int} (h0 : w.cell? ⟨b, o, none⟩ = some (.int .i64 x)) (h1 : w.cell? ⟨b, o + 1, none⟩ = some (.int .i64 y)) :
    Calls Tryz.prog 98 #[.slice (some ⟨b, o, none⟩) 2 c] w fun e w' => e = .returned (.int .i64 (orI x y)) ∧ w = w' := by
  go_enter Tryz.func98, Tryz.ntmps98
  go_wp2
  go_loop [8] (fun i => (i = .int .i64 0) ∨ (i = .int .i64 1 ∧ Hid (x = 0)) ∨ (i = .int .i64 2 ∧ Hid (x = 0 ∧ y = 0))) (fun i => (2 - intOf i).toNat)
  case atStart => exact .inl rfl
  case round =>
    rcases hrel with rfl | ⟨rfl, hx⟩ | ⟨rfl, hx⟩
    · by_cases h : x = 0
      · have hb : (x != 0) = false := by simp [h]
        have HX := Lib.hid h
        clear h
        go_wp2
        go_round
        case rel => exact .inr (.inl ⟨rfl, HX⟩)
        case measure => simp [intOf]
      · have hb : (x != 0) = true := by simp [h]
        have HX := Lib.hid h
        clear h
        go_wp2
        go_ret
        exact ⟨by simp [orI, HX.out], rfl⟩
    · by_cases h : y = 0
      · have hb : (y != 0) = false := by simp [h]
        have HX := Lib.hid h
        clear h
        go_wp2
        go_round
        case rel => exact .inr (.inr ⟨rfl, hx.out, HX.out⟩)
        case measure => simp [intOf]
      · have hb : (y != 0) = true := by simp [h]
        have HX := Lib.hid h
        clear h
        go_wp2
        go_ret
        exact ⟨by simp [orI, hx.out], rfl⟩
    · go_wp2
      go_ret
      exact ⟨by simp [orI, hx.out.1, hx.out.2], rfl⟩

def cmpL (a b : LId) : Int := orI (cmpI a.p b.p) (cmpI a.n b.n)
set_option maxHeartbeats 1000000 in
theorem cmpLine (w : World) (a b : LId) : Calls Tryz.prog 64 #[.agg #[.int .u32 a.p, .int .i64 a.n], .agg #[.int .u32 b.p, .int .i64 b.n]] w fun e w' => e = .returned (.int .i64 (cmpL a b)) ∧ Fr No w w' := by
  go_enter Tryz.func64, Tryz.ntmps64
  go_wp2_with fail
  go_region_held3 (fun w' => w'.cell? ⟨w.heap.size, 0, none⟩ = some (.int .u32 a.p) ∧ w'.cell? ⟨w.heap.size, 1, none⟩ = some (.int .i64 a.n) ∧ w'.cell? ⟨w.heap.size + 1, 0, none⟩ = some (.int .u32 b.p) ∧ w'.cell? ⟨w.heap.size + 1, 1, none⟩ = some (.int .i64 b.n))
    (go_keep)
    (first | (go_at_call 99; refine (cmpU32 _ _ _).mono ?_; rintro e w' ⟨rfl, rfl⟩) | (go_at_call 100; refine (cmpInt _ _ _).mono ?_; rintro e w' ⟨rfl, rfl⟩) | (go_at_call 98; refine (or2 (x := cmpI a.p b.p) (y := cmpI a.n b.n) (by go_simp) (by go_simp)).mono ?_; rintro e w' ⟨rfl, rfl⟩))
  go_wp2
  go_ret
  exact ⟨rfl, (((Fr.alloc _ _ _).trans (Fr.alloc _ _ _)).trans (Fr.alloc _ _ _)).trans (Fr.drew _ _)⟩

def cmpE (a b : Edg) : Int := orI (cmpL a.a b.a) (cmpL a.b b.b)
set_option maxHeartbeats 2000000 in
set_option maxRecDepth 100000 in
theorem cmpEdge (w : World) (a b : Edg) : Calls Tryz.prog 129 #[.agg #[.int .u32 a.a.p, .int .i64 a.a.n, .int .u32 a.b.p, .int .i64 a.b.n], .agg #[.int .u32 b.a.p, .int .i64 b.a.n, .int .u32 b.b.p, .int .i64 b.b.n]] w fun e w' => e = .returned (.int .i64 (cmpE a b)) ∧ Fr No w w' := by
  go_enter Tryz.func129, Tryz.ntmps129
  go_wp2_with fail
  refine namedN (fun W1 hW1 => ?_)
  have ca := (Fr.alloc No (w.alloc (.cells #[.int .u32 a.a.p, .int .i64 a.a.n, .int .u32 a.b.p, .int .i64 a.b.n] 59)) (.cells #[.int .u32 b.a.p, .int .i64 b.a.n, .int .u32 b.b.p, .int .i64 b.b.n] 59)).heap (fun e => e) (heap_last w _)
  have cb := heap_last (w.alloc (.cells #[.int .u32 a.a.p, .int .i64 a.a.n, .int .u32 a.b.p, .int .i64 a.b.n] 59)) (.cells #[.int .u32 b.a.p, .int .i64 b.a.n, .int .u32 b.b.p, .int .i64 b.b.n] 59)
  rw [World.size_alloc] at cb
  rw [← hW1] at ca cb
  have hf1 : Fr No w W1 := by rw [hW1]; exact (Fr.alloc _ _ _).trans (Fr.alloc _ _ _)
  clear hW1
  have a0 := cell_of_heap ca 0
  have a1 := cell_of_heap ca 1
  have a2 := cell_of_heap ca 2
  have a3 := cell_of_heap ca 3
  have b0 := cell_of_heap cb 0
  have b1 := cell_of_heap cb 1
  have b2 := cell_of_heap cb 2
  have b3 := cell_of_heap cb 3
  clear ca cb
  go_region_held3 (fun w' => (w'.cell? ⟨w.heap.size, 0, none⟩ = some (.int .u32 a.a.p) ∧ w'.cell? ⟨w.heap.size, 1, none⟩ = some (.int .i64 a.a.n) ∧ w'.cell? ⟨w.heap.size, 2, none⟩ = some (.int .u32 a.b.p) ∧ w'.cell? ⟨w.heap.size, 3, none⟩ = some (.int .i64 a.b.n) ∧
      w'.cell? ⟨w.heap.size + 1, 0, none⟩ = some (.int .u32 b.a.p) ∧ w'.cell? ⟨w.heap.size + 1, 1, none⟩ = some (.int .i64 b.a.n) ∧ w'.cell? ⟨w.heap.size + 1, 2, none⟩ = some (.int .u32 b.b.p) ∧ w'.cell? ⟨w.heap.size + 1, 3, none⟩ = some (.int .i64 b.b.n)))
    (first | go_keep | (go_split_ands; refine ⟨hf.cell (fun e => e) (by assumption), hf.cell (fun e => e) (by assumption), hf.cell (fun e => e) (by assumption), hf.cell (fun e => e) (by assumption), hf.cell (fun e => e) (by assumption), hf.cell (fun e => e) (by assumption), hf.cell (fun e => e) (by assumption), hf.cell (fun e => e) (by assumption)⟩))
    (first | (go_at_call 64; first | ((with_reducible refine (cmpLine _ a.a b.a).mono ?_); rintro e w2 ⟨rfl, hf⟩; have hfa := hf) | ((with_reducible refine (cmpLine _ a.b b.b).mono ?_); rintro e w3 ⟨rfl, hf⟩; have hfb := hf)) | (go_at_call 98; refine (or2 (x := cmpL a.a b.a) (y := cmpL a.b b.b) (by go_simp) (by go_simp)).mono ?_; rintro e w' ⟨rfl, rfl⟩))
  go_wp2
  go_ret
  exact ⟨rfl, ((hf1.trans ((Fr.drew _ _).trans hfa)).trans hfb).trans (Fr.alloc _ _ _)⟩
end Go.Proofs.YthnfkjcndidoaaaGreatDoor
