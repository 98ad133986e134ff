import Derived.Test.YthnfkjcndidoaaaGreatDoorProg
import Derived.Test.YthnfkjcndidoaaaGreatDoorCBase
import Derived.Outline
import Derived.LoopTactic
import Derived.Deep.QuietTactic
import Derived.BigQuiet
import Derived.BigRegion
import Derived.RegionTactic
import Derived.IntWalk
import Derived.WalkLawsBesides
import Derived.WalkSpells
import Derived.Lib.Hide
import Derived.Laws.Bits64b
import Derived.Laws.BitsAllLaws
set_option linter.unusedVariables false
set_option linter.unusedSimpArgs false
namespace Go.Proofs.YthnfkjcndidoaaaGreatDoor
open Go.RowKit Go.Shelf

theorem info_u64 : (Tryz.prog.info? 180).map (fun i => (i.zero, i.size, i.bytes)) = some (some (.int .u64 0), 1, 8) := by kernel_rfl
def wordCells (n x : Nat) : Array Value := if n = 0 then #[] else #[.int .u64 x]
/-- A row of n bits (at most 64): its struct in block b, its word in block d; the bits that are on: those of x. -/
structure RowIs (W : World) (b d n x : Nat) : Prop where
  hb : W.heap[b]? = some (.cells #[.int .i64 n, .slice (some ⟨d, 0, none⟩) ((n + 63) / 64) ((n + 63) / 64)] 183 (0, 0))
  hd : W.heap[d]? = some (.cells (wordCells n x) 180 (0, 0))
  hn : n ≤ 64
  hx : x < 2 ^ n
theorem RowIs.fr {S : Nat → Prop} {W W' : World} {b d n x : Nat} (h : RowIs W b d n x) (hf : Fr S W W') (h1 : ¬ S b) (h2 : ¬ S d) : RowIs W' b d n x := ⟨hf.heap h1 h.hb, hf.heap h2 h.hd, h.hn, h.hx⟩

theorem mk_u64 (w : World) (c : Int) (k : Nat) (hck : c = k) (hk : k ≤ 1000) : (Instr.makeSlice 181 (.int .i64 c) (.int .i64 c)).run Tryz.prog w = .ok (.slice (some ⟨w.heap.size, 0, none⟩) k k) (w.alloc (.cells (madeCells #[.int .u64 0] k) 180)) := by
  obtain ⟨i, hi, hz, hs, hb⟩ := info_parts info_u64
  subst hck
  have := run_make w 181 180 i (.int .u64 0) Tryz.underlying181 hi hz .i64 .i64 k k (by omega) (Int.le_refl _) (by rw [hb]; omega) (by omega)
  rw [hs] at this
  simpa [Value.cells] using this
theorem heap_last (w : World) (o : Obj) : (w.alloc o).heap[w.heap.size]? = some o := World.alloc_heap_new w o
theorem made_word (n : Nat) (hn : n ≤ 64) : madeCells #[.int .u64 0] ((n + 63) / 64) = wordCells n 0 := by
  unfold wordCells
  by_cases h : n = 0
  · subst h; simp [madeCells]
  · rw [if_neg h, show (n + 63) / 64 = 1 by omega]; simp [madeCells, Array.range_succ, Array.range_zero']

set_option maxRecDepth 10000 in
theorem bitsNew (w : World) (n : Nat) (hn : n ≤ 64) : Calls Tryz.prog 101 #[.int .i64 n] w fun e w' =>
    e = .returned (.pointer (some ⟨w.heap.size + 1, 0, none⟩)) ∧ w'.heap.size = w.heap.size + 2 ∧ RowIs w' (w.heap.size + 1) w.heap.size n 0 ∧ Fr No w w' := by
  have hmk := fun w => mk_u64 w (((n : Int) + 64 - 1) / 64) ((n + 63) / 64) (by omega) (by omega)
  go_enter Tryz.func101, Tryz.ntmps101
  go_wp2
  go_ret
  rw [made_word n hn]
  refine ⟨rfl, by simp, ⟨?_, ?_, hn, Nat.two_pow_pos n⟩, (Fr.alloc _ _ _).trans (Fr.alloc _ _ _)⟩
  · have := heap_last (w.alloc (.cells (wordCells n 0) 180)) (.cells #[.int .i64 n, .slice (some ⟨w.heap.size, 0, none⟩) ((n + 63) / 64) ((n + 63) / 64)] 183)
    rwa [World.size_alloc] at this
  · exact (Below.heap_alloc _ _ _ (by simp)).trans (heap_last _ _)

theorem cell_of_heap {W : World} {b : Nat} {cs : Array Value} {t : TypeId} {f : Nat × Nat} (h : W.heap[b]? = some (.cells cs t f)) (i : Nat) : W.cell? ⟨b, i, none⟩ = cs[i]? := by simp [World.cell?, h]
theorem frozen_of_heap {W : World} {b : Nat} {cs : Array Value} {t : TypeId} (h : W.heap[b]? = some (.cells cs t (0, 0))) (i : Nat) : W.frozen? ⟨b, i, none⟩ = false := by simp [World.frozen?, h]
section
variable {W : World} {b d n x : Nat} (h : RowIs W b d n x)
include h
theorem RowIs.c0 : W.cell? ⟨b, 0, none⟩ = some (.int .i64 n) := by rw [cell_of_heap h.hb]; rfl
theorem RowIs.c1 : W.cell? ⟨b, 1, none⟩ = some (.slice (some ⟨d, 0, none⟩) ((n + 63) / 64) ((n + 63) / 64)) := by rw [cell_of_heap h.hb]; rfl
theorem RowIs.w0 (hn : 0 < n) : W.cell? ⟨d, 0, none⟩ = some (.int .u64 x) := by rw [cell_of_heap h.hd]; simp [wordCells, Nat.ne_of_gt hn]
theorem RowIs.f0 : W.frozen? ⟨d, 0, none⟩ = false := frozen_of_heap h.hd 0
theorem RowIs.lt64 : x < 18446744073709551616 := Nat.lt_of_lt_of_le h.hx (Nat.pow_le_pow_right (by decide) h.hn)
end

theorem rowLen {w : World} {b d n x : Nat} (h : RowIs w b d n x) : Calls Tryz.prog 171 #[.pointer (some ⟨b, 0, none⟩)] w fun e w' => e = .returned (.int .i64 n) ∧ w = w' := by
  have h0 := h.c0
  go_enter Tryz.func171, Tryz.ntmps171
  go_wp2
  go_ret
  exact ⟨rfl, rfl⟩
theorem rowLen_nil {w : World} : Calls Tryz.prog 171 #[.pointer none] w fun e w' => e = .returned (.int .i64 0) ∧ w = w' := by
  go_enter Tryz.func171, Tryz.ntmps171
  go_wp2
  go_ret
  exact ⟨rfl, rfl⟩

/-- Is a place there? -/
def inB (n : Nat) (i : Int) : Bool := decide (0 ≤ i) && decide (i < n)
theorem inB_t {n : Nat} {i : Int} (h : inB n i = true) : 0 ≤ i ∧ i < n := by simpa [inB] using h
theorem inB_f {n : Nat} {i : Int} (h : inB n i = false) : i < 0 ∨ (n : Int) ≤ i := by
  simp only [inB, Bool.and_eq_false_iff, decide_eq_false_iff_not] at h
  omega
theorem rowThere {w : World} {b d n x : Nat} (h : RowIs w b d n x) (i : Int) (v : Bool) (hv : inB n i = v) : Calls Tryz.prog 147 #[.pointer (some ⟨b, 0, none⟩), .int .i64 i] w fun e w' => e = .returned (.bool v) ∧ w = w' := by
  by_cases h1 : 0 ≤ i <;> by_cases h2 : i < n
  all_goals
    obtain rfl : v = _ := hv.symm.trans (by simp [inB, h1, h2]; rfl)
    have H := Lib.hid h
    clear h hv
    go_enter Tryz.func147, Tryz.ntmps147
    go_wp2_with (go_at_call 171; refine (rowLen H.out).mono ?_; rintro e w' ⟨rfl, rfl⟩)
    go_ret
    exact ⟨by simp [h2], rfl⟩

/-- Is a bit on? -/
def hasB (n x : Nat) (i : Int) : Bool := inB n i && x.testBit i.toNat
theorem bit_test (x i : Nat) (hx : x < 18446744073709551616) : (bits BinOp.and IntKind.u64 ((x : Int) / 2 ^ i) 1 == 1) = x.testBit i := by
  have h1 : ((x : Int) / 2 ^ i) = ((x / 2 ^ i : Nat) : Int) := by simp
  have h2 : x / 2 ^ i < 18446744073709551616 := Nat.lt_of_le_of_lt (Nat.div_le_self _ _) hx
  rw [h1, show (1 : Int) = ((1 : Nat) : Int) from rfl, bits_and_u64_nat _ _ h2 (by omega), Nat.and_one_is_mod, Nat.testBit_eq_decide_div_mod_eq]
  by_cases h : x / 2 ^ i % 2 = 1
  · simp [h]
  · have : x / 2 ^ i % 2 = 0 := by omega
    simp [this]
theorem rowHas {w : World} {b d n x : Nat} (h : RowIs w b d n x) (i : Int) (v : Bool) (hv : hasB n x i = v) : Calls Tryz.prog 146 #[.pointer (some ⟨b, 0, none⟩), .int .i64 i] w fun e w' => e = .returned (.bool v) ∧ w = w' := by
  cases hi : inB n i with
  | false =>
    obtain rfl : v = false := hv.symm.trans (by simp [hasB, hi])
    have H := Lib.hid h
    have HI := Lib.hid hi
    clear h hv hi
    go_enter Tryz.func146, Tryz.ntmps146
    go_wp2_with (go_at_call 147; refine (rowThere H.out i false HI.out).mono ?_; rintro e w' ⟨rfl, rfl⟩)
    go_ret
    exact ⟨rfl, rfl⟩
  | true =>
    obtain ⟨h0, h1⟩ := inB_t hi
    have hn := h.hn
    have c1 := h.c1
    have w0 := h.w0 (by omega)
    have hk : (n + 63) / 64 = 1 := by omega
    rw [hk] at c1
    have hq : i / 64 = 0 := by omega
    have hm : i % 64 = i := by omega
    have HV := Lib.hid (hv.symm.trans (show hasB n x i = (bits BinOp.and IntKind.u64 ((x : Int) / 2 ^ i.toNat) 1 == 1) by rw [bit_test x i.toNat h.lt64, hasB, hi, Bool.true_and]))
    have H := Lib.hid h
    have HI := Lib.hid hi
    clear h hv hi hk
    go_enter Tryz.func146, Tryz.ntmps146
    go_wp2_with (go_at_call 147; refine (rowThere H.out i true HI.out).mono ?_; rintro e w' ⟨rfl, rfl⟩)
    go_ret
    exact ⟨by rw [HV.out]; rfl, rfl⟩

def putB (x i : Nat) (on : Bool) : Nat := if on then x ||| 2 ^ i else x &&& (18446744073709551615 - 2 ^ i)
theorem heap_set {W : World} {b i : Nat} {cs : Array Value} {t : TypeId} {f : Nat × Nat} {v : Value} (h : W.heap[b]? = some (.cells cs t f)) : (W.setCell ⟨b, i, none⟩ v).heap[b]? = some (.cells (cs.setIfInBounds i v) t f) := by
  obtain ⟨hlt, e⟩ := Array.getElem?_eq_some_iff.1 h
  simp [World.setCell, Array.getElem?_modify, h]
theorem World.heap_drew (w : World) : w.drew.heap = w.heap := rfl
theorem wordCells_set (n x : Nat) (y : Int) (hn : 0 < n) : (wordCells n x).setIfInBounds 0 (.int .u64 y) = #[.int .u64 y] := by simp [wordCells, Nat.ne_of_gt hn]
theorem RowIs.ne {W : World} {b d n x : Nat} (h : RowIs W b d n x) : b ≠ d := by
  rintro rfl
  have := h.hb.symm.trans h.hd
  simp at this
theorem putB_lt {n x i : Nat} (hx : x < 2 ^ n) (hi : i < n) (on : Bool) : putB x i on < 2 ^ n := by
  unfold putB
  cases on
  · exact Nat.lt_of_le_of_lt Nat.and_le_left hx
  · exact Nat.or_lt_two_pow hx (Nat.pow_lt_pow_right (by decide) hi)
theorem wrap_pow (i : Nat) (hi : i < 64) : IntKind.u64.wrap (2 ^ i) = ((2 ^ i : Nat) : Int) := by
  have h : 2 ^ i < 2 ^ 64 := Nat.pow_lt_pow_right (by decide) hi
  have h2 : ((2 : Int) ^ i) = ((2 ^ i : Nat) : Int) := by simp
  rw [h2]
  have h3 : ((2 ^ i : Nat) : Int) < 18446744073709551616 := Int.ofNat_lt.2 (Nat.lt_of_lt_of_le h (by decide))
  clear h h2 hi
  generalize 2 ^ i = y at h3 ⊢
  simp [IntKind.wrap, IntKind.bits, IntKind.signed]
  omega
def putI (x i : Nat) (on : Bool) : Int := if on then bits BinOp.or IntKind.u64 x (IntKind.u64.wrap (2 ^ i)) else bits BinOp.andNot IntKind.u64 x (IntKind.u64.wrap (2 ^ i))
theorem putB_word (x i : Nat) (on : Bool) (hx : x < 18446744073709551616) (hi : i < 64) : ((putB x i on : Nat) : Int) = putI x i on := by
  have h : 2 ^ i < 2 ^ 64 := Nat.pow_lt_pow_right (by decide) hi
  unfold putB putI
  rw [wrap_pow i hi]
  cases on
  · simpa using (u64_andNot_nat x (2 ^ i) hx (by simpa using h)).symm
  · simpa using (bits_or_u64_nat x (2 ^ i) hx (by simpa using h)).symm
theorem rowPut {w : World} {b d n x : Nat} (h : RowIs w b d n x) (i : Int) (on : Bool) (hi : inB n i = true) : Calls Tryz.prog 105 #[.pointer (some ⟨b, 0, none⟩), .int .i64 i, .bool on] w fun e w' =>
    e = .returned (.tuple #[]) ∧ RowIs w' b d n (putB x i.toNat on) ∧ Fr (One d) w w' := by
  obtain ⟨h0, h1⟩ := inB_t hi
  have hn := h.hn
  have c1 := h.c1
  have w0 := h.w0 (by omega)
  have f0 := h.f0
  have hk : (n + 63) / 64 = 1 := by omega
  rw [hk] at c1
  have hq : i / 64 = 0 := by omega
  have hm : i % 64 = i := by omega
  have H := Lib.hid h
  have HI := Lib.hid hi
  clear h hi hk
  cases on
  all_goals
    go_enter Tryz.func105, Tryz.ntmps105
    go_wp2_with (go_at_call 147; refine (rowThere H.out i true HI.out).mono ?_; rintro e w' ⟨rfl, rfl⟩)
    go_region
    go_end0
    refine ⟨rfl, ⟨?_, ?_, hn, ?_⟩, (Fr.set1 _ _ _ _).trans (Fr.drew _ _)⟩
    · exact (Below.heap_setCell _ _ _ _ (H.out.ne)).trans H.out.hb
    · rw [World.heap_drew, heap_set H.out.hd, wordCells_set _ _ _ (by omega), wordCells, if_neg (by omega)]
      rw [putB_word x i.toNat _ H.out.lt64 (by omega)]
      rfl
    · exact putB_lt H.out.hx (by omega) _
end Go.Proofs.YthnfkjcndidoaaaGreatDoor
