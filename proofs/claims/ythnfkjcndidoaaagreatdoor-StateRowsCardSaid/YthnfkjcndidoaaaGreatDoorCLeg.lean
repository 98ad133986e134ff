import Derived.Test.YthnfkjcndidoaaaGreatDoorCSmall2
set_option linter.unusedVariables false
set_option linter.unusedSimpArgs false
namespace Go.Proofs.YthnfkjcndidoaaaGreatDoor
open Go.RowKit Go.Shelf

/-! ### state.Leg -/
def legAt (b : List Ln) (x : Ln) : Int := at1 (fun y : Ln => decide (y.id = x.id)) b
def legB (a b : List Ln) : Bool := a.all fun x => decide (0 ≤ legAt b x)
def legV (a b : List Ln) : List Int := if legB a b then a.map (legAt b) else []
theorem enters_leg1 : Enters Tryz.prog 40 := enters_of Tryz.func40 (by kernel_rfl) rfl
set_option maxRecDepth 100000 in
theorem leg1 {W0 : World} {B : Nat} {x : Ln} (hB : W0.heap[B]? = some (.cells #[.int .u32 x.id.p, .int .i64 x.id.n, .string x.text, .bool x.dead] 47 (0, 0))) (y : Ln) : Tells 40 #[.pointer (some ⟨B, 0, none⟩)] W0 (.agg #[.int .u32 y.id.p, .int .i64 y.id.n, .string y.text, .bool y.dead]) (decide (y.id = x.id)) := by
  intro W hf
  have hB2 := ((hf.trans (Fr.alloc No W (.cells #[.int .u32 y.id.p, .int .i64 y.id.n, .string y.text, .bool y.dead] 47))).heap (fun e => e) hB)
  have c0 := cell_of_heap hB2 0
  have c1 := cell_of_heap hB2 1
  clear hB hB2 hf
  show Calls Tryz.prog 40 #[.agg #[.int .u32 y.id.p, .int .i64 y.id.n, .string y.text, .bool y.dead], .pointer (some ⟨B, 0, none⟩)] W _
  by_cases h1 : (y.id.p : Int) = x.id.p
  · by_cases h2 : y.id.n = x.id.n
    · have hd : decide (y.id = x.id) = true := decide_eq_true (lid_ext h1 h2)
      have HD := Lib.hid hd
      have e1 : ((y.id.p : Int) == x.id.p) = true := by simp [h1]
      have e2 : (y.id.n == x.id.n) = true := by simp [h2]
      clear hd h1 h2
      go_enter Tryz.func40, Tryz.ntmps40
      go_wp2
      go_ret
      exact ⟨by rw [HD.out]; rfl, Fr.alloc _ _ _⟩
    · have HD := Lib.hid (lid_ne2 h2)
      have e1 : ((y.id.p : Int) == x.id.p) = true := by simp [h1]
      have e2 : (y.id.n == x.id.n) = false := by simp [h2]
      clear h1 h2
      go_enter Tryz.func40, Tryz.ntmps40
      go_wp2
      go_ret
      exact ⟨by rw [HD.out]; rfl, Fr.alloc _ _ _⟩
  · have HD := Lib.hid (lid_ne1 h1)
    have e1 : ((y.id.p : Int) == x.id.p) = false := by simp [h1]
    clear h1
    go_enter Tryz.func40, Tryz.ntmps40
    go_wp2
    go_ret
    exact ⟨by rw [HD.out]; rfl, Fr.alloc _ _ _⟩
set_option maxHeartbeats 4000000 in
set_option maxRecDepth 100000 in
theorem leg_any {w : World} {x y : Fl} {Al : Option Addr} {cl : Nat} {Ap : Option Addr} {cp : Nat} {Bl : Option Addr} {dl : Nat} {Bp : Option Addr} {dp : Nat} (hx : FlV w x Al cl Ap cp) (hy : FlV w y Bl dl Bp dp) (hn : x.lines.length ≤ 1000000) :
    Calls Tryz.prog 13 #[.agg #[.string x.path, .slice Al x.lines.length cl, .slice Ap x.pairs.length cp], .agg #[.string y.path, .slice Bl y.lines.length dl, .slice Bp y.pairs.length dp]] w fun e w' =>
      ∃ v, e = .returned (.tuple #[v, .bool (legB x.lines y.lines)]) ∧ OwnI w' w.heap.size v (legV x.lines y.lines) ∧ Fr No w w' := by
  have H := Lib.hid (And.intro hx hy)
  obtain ⟨_, _, _, _, hb⟩ := hx.1.form
  obtain ⟨i0, hi, hz0, hz1, hz2⟩ := info_parts info_int
  have HI := Lib.hid (And.intro hi (And.intro hz0 (And.intro hz1 hz2)))
  clear hx hy hi hz0 hz1 hz2
  have hF1 : Fr No w ((w.alloc (.cells #[.string x.path, .slice Al x.lines.length cl, .slice Ap x.pairs.length cp] 32)).alloc (.cells #[.string y.path, .slice Bl y.lines.length dl, .slice Bp y.pairs.length dp] 32)) := (Fr.alloc _ _ _).trans (Fr.alloc _ _ _)
  have hA1 : ((w.alloc (.cells #[.string x.path, .slice Al x.lines.length cl, .slice Ap x.pairs.length cp] 32)).alloc (.cells #[.string y.path, .slice Bl y.lines.length dl, .slice Bp y.pairs.length dp] 32)).heap[w.heap.size]? = some (.cells #[.string x.path, .slice Al x.lines.length cl, .slice Ap x.pairs.length cp] 32 (0, 0)) := (Fr.alloc No _ _).heap (fun e => e) (heap_last _ _)
  have hA2 : ((w.alloc (.cells #[.string x.path, .slice Al x.lines.length cl, .slice Ap x.pairs.length cp] 32)).alloc (.cells #[.string y.path, .slice Bl y.lines.length dl, .slice Bp y.pairs.length dp] 32)).heap[w.heap.size + 1]? = some (.cells #[.string y.path, .slice Bl y.lines.length dl, .slice Bp y.pairs.length dp] 32 (0, 0)) := by
    have := heap_last (w.alloc (.cells #[.string x.path, .slice Al x.lines.length cl, .slice Ap x.pairs.length cp] 32)) (.cells #[.string y.path, .slice Bl y.lines.length dl, .slice Bp y.pairs.length dp] 32)
    rwa [World.size_alloc] at this
  have HA := Lib.hid (And.intro hF1 (And.intro hA1 hA2))
  clear hF1 hA1 hA2
  go_enter Tryz.func13, Tryz.ntmps13
  go_wp2_with (at_make; refine stopAt ?_)
  refine Hid.go (wpList_make_own _ rfl _ _ 35 rfl w.heap.size 3 i0 _ 1 Tryz.underlying35 HI.out.1 HI.out.2.1 HI.out.2.2.1 _ _ _ x.lines.length rfl rfl rfl (by rw [HI.out.2.2.2]; omega) (by unfold maxLen; omega) (by have := HA.out.1.size; omega) ?_)
  intro W1 hown hgr
  have hg1 := Fr.grown (S := No) hgr (fun k e => by cases e)
  have c1 := cell_of_heap (hg1.heap (fun e => e) HA.out.2.1) 1
  have HW := Lib.hid (And.intro hown (And.intro (HA.out.1.trans hg1) (And.intro (hg1.heap (fun e => e) HA.out.2.2) (show w.heap.size + 2 ≤ W1.heap.size by have := hg1.size; simp at this; omega))))
  clear hown hgr hg1
  go_wp2
  clear c1
  go_loopw [6, 17] (fun v i wr => ∃ (v' : Value) (k : Nat), v' = v ∧ i = .int .i64 k ∧ k ≤ x.lines.length ∧ Hid (OwnI wr w.heap.size v' ((x.lines.take k).map (legAt y.lines)) ∧ (x.lines.take k).all (fun z => decide (0 ≤ legAt y.lines z)) = true ∧ Fr No w wr ∧ wr.heap[w.heap.size + 1]? = some (.cells #[.string y.path, .slice Bl y.lines.length dl, .slice Bp y.pairs.length dp] 32 (0, 0)))) (fun _ i _ => x.lines.length - (intOf i).toNat)
  case atStart => exact ⟨_, 0, rfl, rfl, Nat.zero_le _, Lib.hid ⟨by have := HW.out.1; simp only [World.size_alloc] at this; exact this, rfl, HW.out.2.1, HW.out.2.2.1⟩⟩
  case round =>
    obtain ⟨v, k, rfl, rfl, hk, hS⟩ := hrel
    by_cases hlt : k < x.lines.length
    · obtain ⟨b, o, z, rfl, hz, q0, q1, q2, q3⟩ := at_ln H.out.1.1 k hlt
      have hcm := hS.out.2.2.1.cm
      have k0 := hcm _ _ _ q0
      have k1 := hcm _ _ _ q1
      have k2 := hcm _ _ _ q2
      have k3 := hcm _ _ _ q3
      have HZ := Lib.hid hz
      have hal : Fr No wr (wr.alloc (.cells #[.int .u32 z.id.p, .int .i64 z.id.n, .string z.text, .bool z.dead] 47)) := Fr.alloc _ _ _
      have c1 := cell_of_heap (hal.heap (fun e => e) hS.out.2.2.2) 1
      have hsk := seekLn (H.out.2.1.fr (hS.out.2.2.1.trans hal)) enters_leg1 (fun y => decide (y.id = z.id)) (fun y => leg1 (heap_last wr (.cells #[.int .u32 z.id.p, .int .i64 z.id.n, .string z.text, .bool z.dead] 47)) y)
      have HSK := Lib.hid (And.intro hsk hal)
      have hrg := at1_range (fun y : Ln => decide (y.id = z.id)) y.lines
      clear hcm q0 q1 q2 q3 hz hal hsk
      generalize hm : at1 (fun y : Ln => decide (y.id = z.id)) y.lines = m at HSK hrg
      have HM := Lib.hid (show legAt y.lines z = m from hm)
      clear hm
      by_cases hneg : m < 0
      · go_wp2_with (go_at_call 39; refine HSK.out.1.mono ?_; rintro e w2 ⟨rfl, hf2⟩)
        go_ret2
        have hf : legB x.lines y.lines = false := by
          rw [legB, all_false (f := fun z => decide (0 ≤ legAt y.lines z)) HZ.out (by rw [HM.out]; simp; omega)]
        refine ⟨_, by rw [hf]; rfl, by rw [legV, hf]; exact own_none _ _ _ _, (hS.out.2.2.1.trans HSK.out.2).trans hf2⟩
      · have hown := hS.out.1
        have hrl : (x.lines.take k).length = k := by rw [List.length_take]; omega
        go_wp2_with (first | (go_at_call 39; refine HSK.out.1.mono ?_; rintro e w2 ⟨rfl, hf2⟩) | (at_builtin; refine stopAt ?_))
        have hfw : Fr No wr (w2.alloc (.cells #[.int .i64 m] 3)) := (HSK.out.2.trans hf2).trans (Fr.alloc _ _ _)
        have hbs := hS.out.2.2.1.size
        have hbs2 := hfw.size
        obtain ⟨zs, hzs⟩ : ∃ zs, zs = (x.lines.take k).map (legAt y.lines) := ⟨_, rfl⟩
        have hzl : zs.length = k := by rw [hzs, List.length_map, hrl]
        rw [← hzs] at hown
        refine Hid.go (growN rfl _ _ 35 rfl w.heap.size 3 i0 _ 1 8 Tryz.underlying35 HI.out.1 HI.out.2.1 HI.out.2.2.1 HI.out.2.2.2 rfl (by decide) v _ _ rfl (own_fr hown hfw (fun _ _ e => e)) ⟨w2.heap.size, 0, none⟩ 1 1 [.int .i64 m] rfl rfl (new_cells _ _ _) (by simp [Value.oneCell']) (by decide) (by unfold maxLen; omega) (by omega) (by omega) ?_)
        intro g cap w1 hown1 hfa hg hgl
        have hO6 := own_fr hown hfw (fun _ _ e => e)
        have HH := Lib.hid (And.intro hown1 (And.intro hfa (And.intro hO6 (And.intro hzs (And.intro hfw hf2)))))
        clear hown1 hfa hO6 hzs hfw hf2 hown k0 k1 k2 k3 c1
        go_wp2
        go_roundw
        case rel =>
          obtain ⟨hown1, hfa, hO6, hzs, hfw, hf2⟩ := HH.out
          refine ⟨_, k + 1, rfl, by go_num, by omega, Lib.hid ⟨?_, all_take_succ hS.out.2.1 HZ.out (by rw [HM.out]; simp; omega), (hS.out.2.2.1.trans hfw).comp hfa (fun _ _ e => e) (fun i hi e => by have := (own_block hO6 e).1; omega), hfa.heap (fun e => ?_) (hfw.heap (fun e => e) hS.out.2.2.2)⟩⟩
          · have h8 := OwnI.app hown1 rfl
            rw [take_map HZ.out, ← hzs, HM.out]
            rw [hzl] at h8
            exact h8
          · obtain ⟨_, _, cur, hc⟩ := own_block hO6 e
            have := hc.symm.trans (hfw.heap (fun e => e) hS.out.2.2.2)
            simp at this
        case measure => simp [intOf]; omega
    · obtain rfl : k = x.lines.length := by omega
      go_wp2
      go_ret2
      obtain ⟨h1, h2, h3, h4⟩ := hS.out
      rw [List.take_length] at h1 h2
      have hf : legB x.lines y.lines = true := h2
      exact ⟨_, by rw [hf]; rfl, by rw [legV, hf]; exact h1, h3⟩
end Go.Proofs.YthnfkjcndidoaaaGreatDoor
