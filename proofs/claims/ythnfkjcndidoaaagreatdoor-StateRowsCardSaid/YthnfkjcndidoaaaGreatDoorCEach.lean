import Derived.Test.YthnfkjcndidoaaaGreatDoorCBits
import Derived.Shelf.Spec.TrailingZeros
set_option linter.unusedVariables false
set_option linter.unusedSimpArgs false
namespace Go.Proofs.YthnfkjcndidoaaaGreatDoor
open Go.RowKit Go.Shelf

/-! ### The bits that are on, rising -/
def bitsUp (x : Nat) : List Nat := (List.range 64).filter (x.testBit ·)
theorem filter_low (p q : Nat → Bool) (c : Nat) (hc : p c = true) (hl : ∀ j, j < c → p j = false) (hq : ∀ j, q j = (p j && decide (j ≠ c))) :
    ∀ n, c < n → (List.range n).filter p = c :: (List.range n).filter q
  | 0, h => by omega
  | n + 1, h => by
    rw [List.range_succ, List.filter_append, List.filter_append]
    by_cases e : n = c
    · subst e
      have h1 : (List.range n).filter p = [] := List.filter_eq_nil_iff.2 (fun j hj => by rw [hl j (List.mem_range.1 hj)]; simp)
      have h2 : (List.range n).filter q = [] := List.filter_eq_nil_iff.2 (fun j hj => by rw [hq, hl j (List.mem_range.1 hj)]; simp)
      rw [h1, h2]
      simp [hc, hq]
    · rw [filter_low p q c hc hl hq n (by omega)]
      have : q n = p n := by rw [hq]; simp [e]
      simp [List.filter_cons, this]
theorem low_bit (y : Nat) (h0 : y ≠ 0) (hy : y < 18446744073709551616) : y.testBit (Lib.ctz 64 y) = true ∧ (∀ j, j < Lib.ctz 64 y → y.testBit j = false) ∧
    (∀ j, (y &&& (y - 1)).testBit j = (y.testBit j && decide (j ≠ Lib.ctz 64 y))) ∧ Lib.ctz 64 y < 64 := by
  obtain ⟨m, hm, hlt⟩ := Lib.ctzFrom_spec 64 y (by omega) (by simpa using hy)
  have hc : Lib.ctz 64 y = Lib.ctzFrom 64 y := by simp [Lib.ctz, h0]
  rw [hc]
  generalize Lib.ctzFrom 64 y = c at hm hlt
  have hp : 0 < 2 ^ c := Nat.two_pow_pos c
  have hm1 : y - 1 = 2 ^ c * (2 * m) + (2 ^ c - 1) := by rw [hm, Nat.mul_add, Nat.mul_one]; omega
  have e1 : ∀ j, y.testBit j = (decide (c ≤ j) && (2 * m + 1).testBit (j - c)) := fun j => by rw [hm, Nat.testBit_two_pow_mul]
  have e2 : ∀ j, (y - 1).testBit j = if j < c then (2 ^ c - 1).testBit j else (2 * m).testBit (j - c) := fun j => by rw [hm1, Nat.testBit_two_pow_mul_add _ (by omega)]
  refine ⟨by rw [e1]; simp, fun j hj => by rw [e1]; simp; omega, fun j => ?_, hlt⟩
  rw [Nat.testBit_and, e2, e1]
  rcases Nat.lt_trichotomy j c with h | h | h
  · simp [Nat.not_le.2 h]
  · subst h
    simp
  · have h3 : ¬ j < c := by omega
    have h4 : j ≠ c := by omega
    obtain ⟨k, hk⟩ : ∃ k, j - c = k + 1 := ⟨j - c - 1, by omega⟩
    rw [hk]
    simp [h3, h4, Nat.le_of_lt h, Nat.testBit_succ, show (2 * m + 1) / 2 = m by omega, show 2 * m / 2 = m by omega]
theorem bitsUp_step (y : Nat) (h0 : y ≠ 0) (hy : y < 18446744073709551616) : bitsUp y = Lib.ctz 64 y :: bitsUp (y &&& (y - 1)) := by
  obtain ⟨h1, h2, h3, h4⟩ := low_bit y h0 hy
  exact filter_low _ _ _ h1 h2 h3 64 h4
theorem bitsUp_zero : bitsUp 0 = [] := by simp [bitsUp]
theorem bitsUp_lt {x n i : Nat} (hx : x < 2 ^ n) (h : i ∈ bitsUp x) : i < n := by
  simp only [bitsUp, List.mem_filter] at h
  rcases Nat.lt_or_ge i n with h1 | h1
  · exact h1
  · rw [Nat.testBit_lt_two_pow (Nat.lt_of_lt_of_le hx (Nat.pow_le_pow_right (by decide) h1))] at h
    simp at h

/-! ### math/bits.TrailingZeros64; its table -/
def Tab (w : World) : Prop := TabAt 0 Lib.deBruijn64tab w
theorem Tab.fr {S : Nat → Prop} {w w' : World} (h : Tab w) (hf : Fr S w w') (hn : ¬ S 0) : Tab w' := fun j hj => hf.cell hn (h j hj)
theorem tz64_cell (x k idx : Nat) (w : World) (hx0 : ((x : Int) == 0) = false)
    (key : IntKind.u64.wrap (bits BinOp.and IntKind.u64 (x : Int) (IntKind.u64.wrap (-(x : Int))) * 285870213051353865) / 288230376151711744 = (idx : Int))
    (hi : idx < 64) (hk : k < 64) (hcell : w.cell? ⟨0, idx, none⟩ = some (.int .u8 k)) :
    Calls Tryz.prog 173 #[.int .u64 x] w fun e w' => e = .returned (.int .i64 k) ∧ w = w' := by
  go_enter Tryz.func173, Tryz.ntmps173
  go_wp2_with (simp only [key])
  go_ret
  exact ⟨rfl, rfl⟩
theorem tz64 (x : Nat) (hx : x < 18446744073709551616) (hx0 : x ≠ 0) (w : World) (hT : Tab w) :
    Calls Tryz.prog 173 #[.int .u64 x] w fun e w' => e = .returned (.int .i64 (Lib.ctz 64 x)) ∧ w = w' := by
  obtain ⟨hlow, hk⟩ := Lib.lowest_bit 64 x hx0 (by simpa using hx)
  obtain ⟨hi, htab⟩ := Lib.deBruijn64_at _ hk
  have hcell := hT _ hi
  rw [htab] at hcell
  exact tz64_cell x _ _ w (by simp; omega) (tz64_key x _ hx hx0 hlow) hi hk hcell

/-! ### Each -/
theorem rowEach (w : World) (p : Option Addr) : Calls Tryz.prog 148 #[.pointer p] w fun e w' => e = .returned (.func (.func 172) #[] #[.pointer (some ⟨w.heap.size, 0, none⟩)]) ∧ w' = w.alloc (.cells #[.pointer p] 146) := by
  go_enter Tryz.func148, Tryz.ntmps148
  go_wp2
  go_ret
  exact ⟨rfl, rfl⟩

theorem enters_rowEach1 : Enters Tryz.prog 172 := enters_of Tryz.func172 (by kernel_rfl) rfl
attribute [local go_sem] Oper.semAt_some
set_option maxHeartbeats 1000000 in
theorem rowEach_iter {w0 : World} {B b d n x : Nat} (h : RowIs w0 b d n x) (hB : w0.heap[B]? = some (.cells #[.pointer (some ⟨b, 0, none⟩)] 146 (0, 0))) (hT : Tab w0) :
    Iter Tryz.prog 172 #[.pointer (some ⟨B, 0, none⟩)] (fun i : Nat => #[.int .i64 i]) (bitsUp x) (fun i => i = B ∨ i = b ∨ i = d ∨ i = 0) w0 := by
  intro l J Jx O W hsrc hO hl hls hJ hJx h0 hY
  have hrow : RowIs W b d n x := ⟨(hsrc b (by simp)).2.trans h.hb, (hsrc d (by simp)).2.trans h.hd, h.hn, h.hx⟩
  have hcB : W.cell? ⟨B, 0, none⟩ = some (.pointer (some ⟨b, 0, none⟩)) := by rw [cell_of_heap ((hsrc B (by simp)).2.trans hB)]; rfl
  have hTW : Tab W := fun j hj => (World.cell?_of_block (hsrc _ (by simp)).2).trans (hT j hj)
  replace hO : ∀ i, O i → i < W.heap.size ∧ i ≠ 0 := fun i hi => ⟨(hO i hi).1, fun e => (hO i hi).2 (.inr (.inr (.inr e)))⟩
  replace hls : l ≠ 0 := fun e => hls (.inr (.inr (.inr e)))
  clear h hB hT hsrc w0
  refine (callsIn_wide (n := 3)).1 ?_
  refine callsIn_of_wp Tryz.func172 rfl trivial ?_
  simp only [Tryz.ntmps172, List.size_toArray, List.length_cons, List.length_nil, Nat.reduceAdd, Nat.reduceSub, Array.replicate_succ, Array.replicate_zero, List.push_toArray, List.append_toArray, List.nil_append, List.cons_append]
  have c1 := hrow.c1
  by_cases hn : n = 0
  · subst hn
    obtain rfl : x = 0 := by have := hrow.hx; simpa using this
    have HR := Lib.hid hrow
    clear hrow
    gi_wp2
    gi_loopw [12] (fun i wr => i = .int .i64 0 ∧ wr = W) (fun i _ => 0)
    case atStart => exact ⟨rfl, rfl⟩
    case round =>
      obtain ⟨rfl, rfl⟩ := hrel
      gi_wp2
      go_end0
      exact IterEnd.all (O := O) (by rw [bitsUp_zero]; exact h0)
  · have w0 := hrow.w0 (by omega)
    have hk : (n + 63) / 64 = 1 := by have := hrow.hn; omega
    rw [hk] at c1
    have hlt := hrow.lt64
    clear hrow hk hn
    gi_wp2
    gi_loopw [12] (fun i wr => (i = .int .i64 0 ∧ wr = W) ∨ (i = .int .i64 1 ∧ ∃ O', J (bitsUp x) O' wr)) (fun i _ => (1 - intOf i).toNat)
    case atStart => exact .inl ⟨rfl, rfl⟩
    case round =>
      rcases hrel with ⟨rfl, rfl⟩ | ⟨rfl, O', hj⟩
      · have h0' : J [] O wr ∧ Tab wr ∧ (∀ i, O i → i < wr.heap.size ∧ i ≠ 0) := ⟨h0, hTW, hO⟩
        have HC := Lib.hid (And.intro hcB (And.intro c1 w0))
        have c0 := hcB
        gi_wp2
        clear c1 w0 hcB c0 HC
        obtain ⟨wo, hwo⟩ : ∃ wo : World, wo = wr := ⟨_, rfl⟩
        rw [← hwo] at h0' ⊢
        clear hwo h0 hTW hO hl
        gi_loopw [4] (fun v wq => ∃ (pre : List Nat) (y : Nat) (O1 : Nat → Prop), v = .int .u64 y ∧ Hid (bitsUp x = pre ++ bitsUp y) ∧ Hid (y < 18446744073709551616) ∧ J pre O1 wq ∧ Tab wq ∧ Hid (∀ i, O1 i → i < wq.heap.size ∧ i ≠ 0)) (fun v _ => (intOf v).toNat)
        case atStart => exact ⟨[], x, O, rfl, Lib.hid rfl, Lib.hid hlt, h0'.1, h0'.2.1, Lib.hid h0'.2.2⟩
        case round =>
          obtain ⟨pre, y, O1, rfl, hsp, hy64, hj, hT, hO1⟩ := hrel
          clear h0'
          by_cases hy0 : y = 0
          · subst hy0
            gi_wp2
            refine ⟨.inr ⟨rfl, O1, ?_⟩, by simp [intOf]⟩
            rw [hsp.out, bitsUp_zero, List.append_nil]
            exact hj
          · have hne : ((y : Int) == 0) = false := by simp; omega
            have hnn : ((y : Int) != 0) = true := by simp; omega
            have hstep := bitsUp_step y hy0 hy64.out
            have hcl := (low_bit y hy0 hy64.out).2.2.2
            have htz := tz64 y hy64.out hy0 wr hT
            have hand : bits BinOp.and IntKind.u64 (y : Int) (IntKind.u64.wrap ((y : Int) - 1)) = ((y &&& (y - 1) : Nat) : Int) := by
              have h2 := hy64.out
              have := bits_and_u64_nat y (y - 1) h2 (by omega)
              rwa [show ((y - 1 : Nat) : Int) = IntKind.u64.wrap ((y : Int) - 1) by rw [IntKind.wrap_u64]; omega] at this
            generalize hc : Lib.ctz 64 y = c at hstep hcl htz
            obtain ⟨fn, tmps, assign, body, hyl, hR⟩ := hY pre c (bitsUp (y &&& (y - 1))) O1 wr (by rw [hsp.out, hstep]) hj 2
            have HS := Lib.hid hstep
            have HC := Lib.hid hc
            have HN := Lib.hid hy0
            have HA := Lib.hid hand
            clear hstep hc hy0 hand hY
            gi_wp2_with (refine ⟨trivial, ?_⟩; gi_at_call 173; refine (callsIn_wide.2 htz).mono ?_; rintro e w' ⟨rfl, rfl⟩)
            refine hR.mono ?_
            rintro e W' ⟨O', hf, hO', (⟨rfl, hj'⟩ | ⟨rfl, hjx⟩)⟩
            · gi_wp2
              refine ⟨⟨pre ++ [c], y &&& (y - 1), O', by rw [HA.out], Lib.hid (by rw [hsp.out, HS.out]; simp), Lib.hid (Nat.lt_of_le_of_lt Nat.and_le_left hy64.out), hj', hT.fr hf (fun e => ?_), Lib.hid (fun i hi => ⟨(hO' i hi).1, fun e => ?_⟩)⟩, ?_⟩
              · rcases e with e | e
                · exact (hO1.out _ e).2 rfl
                · exact hls e.symm
              · rcases (hO' i hi).2 with h | h
                · exact (hO1.out i h).2 e
                · have := World.block_lt_of_cell? _ _ (hT 0 (by decide))
                  simp at this
                  omega
              · have : (y &&& (y - 1)) ≤ y - 1 := Nat.and_le_right
                have := HN.out
                rw [HA.out]
                simp [intOf]
                omega
            · gi_wp2
              refine bodyPost_ret (results_none rfl _ _ _) rfl (IterEnd.part (by rw [hsp.out, HS.out]) hjx)
      · gi_wp2
        go_end0
        exact IterEnd.all hj

/-! ### Or -/
def orL (x : Nat) (l : List Nat) : Nat := l.foldl (fun a i => a ||| 2 ^ i) x
theorem orL_snoc (x : Nat) (l : List Nat) (i : Nat) : orL x (l ++ [i]) = orL x l ||| 2 ^ i := by simp [orL]
theorem orL_bit (l : List Nat) : ∀ (x j : Nat), (orL x l).testBit j = (x.testBit j || decide (j ∈ l)) := by
  induction l with
  | nil => intro x j; simp [orL]
  | cons i l ih =>
    intro x j
    have := ih (x ||| 2 ^ i) j
    simp only [orL, List.foldl_cons] at this ⊢
    rw [this, Nat.testBit_or, Nat.testBit_two_pow]
    simp only [List.mem_cons, Bool.decide_or, Bool.or_assoc, eq_comm (a := i)]
theorem orL_bits (x y : Nat) (hy : y < 18446744073709551616) : orL x (bitsUp y) = x ||| y := by
  refine Nat.eq_of_testBit_eq fun j => ?_
  rw [orL_bit, Nat.testBit_or]
  congr 1
  by_cases h : j < 64
  · simp [bitsUp, h]
  · simp only [bitsUp, List.mem_filter, List.mem_range, h, false_and, decide_false]
    exact (Nat.testBit_lt_two_pow (Nat.lt_of_lt_of_le hy (Nat.le_trans (by decide : 18446744073709551616 ≤ 2 ^ 64) (Nat.pow_le_pow_right (by decide) (by omega : 64 ≤ j))))).symm
theorem or_bit_same {z i : Nat} (h : z.testBit i = true) : z ||| 2 ^ i = z := by
  refine Nat.eq_of_testBit_eq fun j => ?_
  rw [Nat.testBit_or, Nat.testBit_two_pow]
  by_cases e : i = j
  · subst e; simp [h]
  · simp [e]
theorem enterIn {n : Nat} {f : FuncId} {args : Array Value} {w : World} {R : Ending → World → Prop} (h : CallsIn Fence.wide n Tryz.prog f args w R) : Calls Tryz.prog f args w R := callsIn_wide.1 h

set_option maxHeartbeats 1000000 in
theorem rowOr {w : World} {b d n x b' d' y : Nat} (h : RowIs w b d n x) (h' : RowIs w b' d' n y) (hT : Tab w) (hd : d ≠ b' ∧ d ≠ d' ∧ d ≠ 0) :
    Calls Tryz.prog 107 #[.pointer (some ⟨b, 0, none⟩), .pointer (some ⟨b', 0, none⟩)] w fun e w' =>
      (∃ v, e = .returned (.bool v)) ∧ RowIs w' b d n (x ||| y) ∧ Fr (One d) w w' := by
  have hbd := h.ne
  have hb := (Array.getElem?_eq_some_iff.1 h.hb).1
  have hd0 := (Array.getElem?_eq_some_iff.1 h.hd).1
  have hb' := (Array.getElem?_eq_some_iff.1 h'.hb).1
  have hd' := (Array.getElem?_eq_some_iff.1 h'.hd).1
  have hG := World.block_lt_of_cell? _ _ (hT 0 (by decide))
  simp only at hG
  have H := Lib.hid h
  have H' := Lib.hid h'
  have HT := Lib.hid hT
  clear h h' hT
  refine enterIn (n := 3) ?_
  refine callsIn_of_wp_marks Tryz.func107 rfl trivial ?_
  simp only [Tryz.ntmps107, List.size_toArray, List.length_cons, List.length_nil, Nat.reduceAdd, Nat.reduceSub, Array.replicate_succ, Array.replicate_zero, List.push_toArray, List.append_toArray, List.nil_append, List.cons_append]
  gi_wp2_with (refine ⟨trivial, ?_⟩; gi_at_call 148; refine (callsIn_wide.2 (rowEach _ _)).mono ?_; rintro e w' ⟨rfl, rfl⟩)
  refine named (fun W1 hW1 => ?_)
  have bx : Box W1 w.heap.size 146 (.pointer (some ⟨b, 0, none⟩)) := by rw [hW1]; exact ((Box.new _ _ _).old _).old _
  have bi : Box W1 (w.heap.size + 1) 4 (.bool false) := by
    rw [hW1]
    have := Box.new (w.alloc (.cells #[.pointer (some ⟨b, 0, none⟩)] 146)) 4 (.bool false)
    rw [World.size_alloc] at this
    exact this.old _
  have bo : Box W1 (w.heap.size + 1 + 1) 146 (.pointer (some ⟨b', 0, none⟩)) := by
    rw [hW1]
    have := Box.new ((w.alloc (.cells #[.pointer (some ⟨b, 0, none⟩)] 146)).alloc (.cells #[.bool false] 4)) 146 (.pointer (some ⟨b', 0, none⟩))
    rwa [World.size_alloc, World.size_alloc] at this
  have hsz : W1.heap.size = w.heap.size + 1 + 1 + 1 := by rw [hW1]; simp
  have hfr : Fr No w W1 := by rw [hW1]; exact ((Fr.alloc _ _ _).trans (Fr.alloc _ _ _)).trans (Fr.alloc _ _ _)
  clear hW1
  have h1 := H.out.fr hfr (fun e => e) (fun e => e)
  have h1' := H'.out.fr hfr (fun e => e) (fun e => e)
  have hT1 := HT.out.fr hfr (fun e => e)
  have hy64 := h1'.lt64
  refine range_outer (rowEach_iter h1' bo hT1) enters_rowEach1 rfl (fun _ => rfl) (fun i hi => ⟨by omega, rfl⟩)
    (fun pre O W => O = (fun i => i = w.heap.size + 1 ∨ i = d) ∧ RowIs W b d n (orL x pre) ∧ Box W w.heap.size 146 (.pointer (some ⟨b, 0, none⟩)) ∧ (∃ v, Box W (w.heap.size + 1) 4 (.bool v)) ∧ Fr (One d) w W)
    (fun _ _ _ _ => False) (fun i => i = w.heap.size + 1 ∨ i = d) ?hO ?hJ (fun _ _ _ _ _ h _ => h) ⟨rfl, h1, bx, ⟨_, bi⟩, hfr.of_no⟩ ?hround ?hdone (fun _ _ _ _ _ _ _ h _ _ => (h _ (Fr.refl _ _)).elim)
  case hO =>
    intro i hi
    refine ⟨by omega, fun e => ?_⟩
    omega
  case hJ =>
    rintro s O A A' ⟨rfl, g1, g2, ⟨v, g3⟩, g4⟩ hf
    refine ⟨rfl, g1.fr hf (by omega) (by omega), g2.fr hf (by omega), ⟨v, g3.fr hf (by omega)⟩, g4.comp hf (fun _ _ e => e) (fun i hi e => by omega)⟩
  case hround =>
    rintro l pre i rest O W hx hl1 hl2 ⟨rfl, g1, g2, ⟨v, g3⟩, g4⟩ hOl
    refine keepK (fun K hK => ?_)
    gi_wp2
    refine hK.out _ _ ⟨Fr.refl _ _, ?_⟩
    rintro W2 hf2 _ _ ⟨_, g1, g2, ⟨v, g3⟩, g4⟩
    clear hK
    have hi := bitsUp_lt h1'.hx (show i ∈ bitsUp y by rw [hx]; simp)
    have hib : inB n i = true := by simp [inB, hi]
    have cb := g2.cell
    have ci := g3.cell
    have fi := g3.frozen
    refine keepQ (fun Q hQ => ?_)
    cases hv : hasB n (orL x pre) i with
    | true =>
      have HV := Lib.hid hv
      have HI := Lib.hid hib
      clear hv hib
      gi_wp2_with (first | (refine ⟨trivial, ?_⟩; gi_at_call 147; refine (CallsIn.inRound l (callsIn_wide.2 (rowThere g1 i true HI.out))).mono ?_; rintro e w' ⟨rfl, rfl⟩) | (refine ⟨trivial, ?_⟩; gi_at_call 146; refine (CallsIn.inRound l (callsIn_wide.2 (rowHas g1 i true HV.out))).mono ?_; rintro e w' ⟨rfl, rfl⟩))
      refine hQ.out _ _ _ ⟨_, Fr.refl _ _, fun j hj => ⟨?_, .inl hj⟩, rfl, ?_, g2, ⟨_, g3⟩, g4⟩
      · rcases hj with rfl | rfl
        · exact g3.lt
        · exact (Array.getElem?_eq_some_iff.1 g1.hd).1
      · rw [orL_snoc, or_bit_same (by have := HV.out; simp only [hasB, Bool.and_eq_true] at this; exact this.2)]
        exact g1
    | false =>
      have HV := Lib.hid hv
      have HI := Lib.hid hib
      clear hv hib
      gi_wp2_with (first | (refine ⟨trivial, ?_⟩; gi_at_call 147; refine (CallsIn.inRound l (callsIn_wide.2 (rowThere g1 i true HI.out))).mono ?_; rintro e w' ⟨rfl, rfl⟩) | (refine ⟨trivial, ?_⟩; gi_at_call 146; refine (CallsIn.inRound l (callsIn_wide.2 (rowHas g1 i false HV.out))).mono ?_; rintro e w' ⟨rfl, rfl⟩) | (refine ⟨trivial, ?_⟩; gi_at_call 105; refine (CallsIn.inRound l (callsIn_wide.2 (rowPut g1 i true HI.out))).mono ?_; rintro e w' ⟨rfl, g5, hf5⟩; have ci5 := (g3.fr hf5 (by show _ ≠ _; omega)).cell; have fi5 := (g3.fr hf5 (by show _ ≠ _; omega)).frozen))
      have hfs : Fr (fun j => j = w.heap.size + 1 ∨ j = d) W2 (w'.setCell ⟨w.heap.size + 1, 0, none⟩ (.bool true)) :=
        hf5.comp (Fr.set1 w' (w.heap.size + 1) 0 (.bool true)) (fun _ _ e => .inr e) (fun _ _ e => .inl e)
      have hs2 : W2.heap.size ≤ (w'.setCell ⟨w.heap.size + 1, 0, none⟩ (.bool true)).heap.size := hfs.size
      refine hQ.out _ _ _ ⟨_, hfs, fun j hj => ⟨?_, .inl hj⟩, rfl, ?_, (g2.fr hf5 (show _ ≠ _ by omega)).setCell _ (by omega), ⟨_, (g3.fr hf5 (show _ ≠ _ by omega)).set _⟩, ?_⟩
      · rcases hj with rfl | rfl
        · exact Nat.lt_of_lt_of_le g3.lt hs2
        · exact Nat.lt_of_lt_of_le (Array.getElem?_eq_some_iff.1 g1.hd).1 hs2
      · rw [orL_snoc]
        exact g5.fr (Fr.set1 _ _ _ _) (show _ ≠ _ by omega) (show _ ≠ _ by omega)
      · exact g4.comp hfs (fun _ _ e => e) (fun j hj e => by rcases e with e | e; omega; exact e)
  case hdone =>
    rintro O W hW hD -
    have hDs := (Array.getElem?_eq_some_iff.1 hD).1
    have hj := (hW W (Fr.refl _ _)).2.2.2.1
    obtain ⟨v, g3⟩ := hj
    have c3 := g3.cell
    have Hd := Lib.hid hD
    clear hD
    gi_wp2
    refine ⟨by simp, .inl ⟨_, _, rfl, run_takeDeferred Hd.out, ?_⟩⟩
    obtain ⟨_, j1, _, _, j4⟩ := hW _ (fr_putObj_one W _ (.deferred none))
    rw [orL_bits x y hy64] at j1
    exact ⟨_, results_tmp rfl _ _ _, ⟨_, rfl⟩, j1, j4⟩
end Go.Proofs.YthnfkjcndidoaaaGreatDoor
