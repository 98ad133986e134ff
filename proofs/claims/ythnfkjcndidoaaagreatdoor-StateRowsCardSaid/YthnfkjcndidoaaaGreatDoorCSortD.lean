import Derived.Test.YthnfkjcndidoaaaGreatDoorCSortC
set_option linter.unusedVariables false
set_option linter.unusedSimpArgs false
namespace Go.Proofs.YthnfkjcndidoaaaGreatDoor
open Go.RowKit Go.Shelf Go.Sort
theorem holds_fr {S : Nat → Prop} {w w' : World} {g o : Nat} {d : Array Nat} (h : Holds encU w g o d) (hf : Fr S w w') (hn : ¬ S g) : Holds encU w' g o d := fun j hj => by
  obtain ⟨h1, h2⟩ := h j hj
  refine ⟨hf.cell (p := ⟨g, o + j, none⟩) hn h1, ?_⟩
  have := hf.same g (World.block_lt_of_cell? w ⟨g, o + j, none⟩ h1) hn
  unfold World.frozen? at h2 ⊢
  rw [this]
  exact h2
theorem holds_fam {w : World} {g o : Nat} {d : Array Nat} (h : Holds encU w g o d) (n : Nat) (hn : d.size = n) : ∃ G : Nat → Nat, Hid (∀ t, G t = d[t]!) ∧ (∀ t, t < n → w.cell? ⟨g, o + t, none⟩ = some (.int .u32 (G t))) ∧ (∀ t, t < n → w.frozen? ⟨g, o + t, none⟩ = false) :=
  ⟨fun t => d[t]!, Lib.hid fun _ => rfl, fun t ht => (h t (by omega)).1, fun t ht => (h t (by omega)).2⟩
set_option maxRecDepth 100000 in
theorem order2U (g o cap len : Nat) (d : Array Nat) (hlen : d.size = len) (a b sb s : Nat) (w : World) (hH : Holds encU w g o d) (ha : a < d.size) (hb : b < d.size) (hS : Box w sb 3 (.int .i64 s)) (hs : s < 1000) :
    Calls Tryz.prog 192 #[.slice (some ⟨g, o, none⟩) len cap, .int .i64 a, .int .i64 b, .pointer (some ⟨sb, 0, none⟩)] w fun e w' =>
      e = .returned (.tuple #[.int .i64 ((order2 ltU d a b s).1 : Nat), .int .i64 ((order2 ltU d a b s).2.1 : Nat)]) ∧ Box w' sb 3 (.int .i64 ((order2 ltU d a b s).2.2 : Nat)) ∧ Fr (One sb) w w' := by
  subst hlen
  obtain ⟨G, hG, hcw, hfw⟩ := holds_fam hH d.size rfl
  have HS := Lib.hid hS
  have c0 := hS.cell
  have f0 := hS.frozen
  clear hH hS
  go_enter Tryz.func192, Tryz.ntmps192
  go_wp2_with fail
  go_quiet (first | (go_at_call 185; refine Calls.quiet_of_same (lessU _ _ _)))
  have c1 : (w.drewN nq).cell? ⟨sb, 0, none⟩ = some (.int .i64 s) := c0
  have f1 : (w.drewN nq).frozen? ⟨sb, 0, none⟩ = false := f0
  go_wp2
  · have hl : ltU (G b) (G a) = true := by assumption
    go_ret2
    rw [hG.out, hG.out] at hl
    refine ⟨by simp [order2, hl], ?_, (Fr.drewN _ _ _).trans (Fr.set1 _ _ _ _)⟩
    have : Box (w.drewN nq) sb 3 (.int .i64 s) := HS.out
    have := this.set (.int .i64 ((s : Int) + 1))
    simpa [order2, hl] using this
  · have hl : ltU (G b) (G a) = false := by assumption
    go_ret2
    rw [hG.out, hG.out] at hl
    refine ⟨by simp [order2, hl], ?_, Fr.drewN _ _ _⟩
    have : Box (w.drewN nq) sb 3 (.int .i64 s) := HS.out
    simpa [order2, hl] using this
theorem order2_ltU (d : Array Nat) {a b n : Nat} (s : Nat) (ha : a < n) (hb : b < n) : (order2 ltU d a b s).1 < n ∧ (order2 ltU d a b s).2.1 < n := by
  unfold order2; split <;> exact ⟨by assumption, by assumption⟩
theorem order2_swU (d : Array Nat) (a b s : Nat) : (order2 ltU d a b s).2.2 ≤ s + 1 := by
  unfold order2; split <;> simp
set_option maxRecDepth 100000 in
theorem medianU (g o cap len : Nat) (d : Array Nat) (hlen : d.size = len) (a b c sb s : Nat) (w : World) (hH : Holds encU w g o d) (ha : a < d.size) (hb : b < d.size) (hc : c < d.size) (hS : Box w sb 3 (.int .i64 s)) (hs : s < 900) (hne : g ≠ sb) :
    Calls Tryz.prog 191 #[.slice (some ⟨g, o, none⟩) len cap, .int .i64 a, .int .i64 b, .int .i64 c, .pointer (some ⟨sb, 0, none⟩)] w fun e w' =>
      e = .returned (.int .i64 ((median ltU d a b c s).1 : Nat)) ∧ Box w' sb 3 (.int .i64 ((median ltU d a b c s).2 : Nat)) ∧ Fr (One sb) w w' := by
  have l1 := order2_ltU d s ha hb
  have l2 := order2_ltU d (order2 ltU d a b s).2.2 l1.2 hc
  have s1 := order2_swU d a b s
  have s2 := order2_swU d (order2 ltU d a b s).2.1 c (order2 ltU d a b s).2.2
  have l1' := Lib.hid l1
  have l2' := Lib.hid l2
  have HH := Lib.hid hH
  have HS := Lib.hid hS
  have hs1 : Hid ((order2 ltU d a b s).2.2 < 1000) := Lib.hid (by omega)
  have hs2 : Hid ((order2 ltU d (order2 ltU d a b s).2.1 c (order2 ltU d a b s).2.2).2.2 < 1000) := Lib.hid (by omega)
  have HL := Lib.hid hlen
  have hs0 : Hid (s < 1000) := Lib.hid (by omega)
  clear l1 l2 hH hS s1 s2 hlen hs
  go_enter Tryz.func191, Tryz.ntmps191
  go_wp2_with fail
  refine (order2U g o cap len d HL.out a b sb s w HH.out ha hb HS.out hs0.out).mono ?_
  rintro e w1 ⟨rfl, hB1, hf1⟩
  have HB1 := Lib.hid hB1
  have HF1 := Lib.hid hf1
  clear hB1 hf1
  go_wp2_with fail
  refine (order2U g o cap len d HL.out (order2 ltU d a b s).2.1 c sb (order2 ltU d a b s).2.2 w1 (holds_fr HH.out HF1.out hne) l1'.out.2 hc HB1.out hs1.out).mono ?_
  rintro e w2 ⟨rfl, hB2, hf2⟩
  have HB2 := Lib.hid hB2
  have HF2 := Lib.hid (HF1.out.trans hf2)
  clear hB2 hf2
  go_wp2_with fail
  refine (order2U g o cap len d HL.out (order2 ltU d a b s).1 (order2 ltU d (order2 ltU d a b s).2.1 c (order2 ltU d a b s).2.2).1 sb (order2 ltU d (order2 ltU d a b s).2.1 c (order2 ltU d a b s).2.2).2.2 w2 (holds_fr HH.out HF2.out hne) l1'.out.1 l2'.out.1 HB2.out hs2.out).mono ?_
  rintro e w3 ⟨rfl, hB3, hf3⟩
  go_wp2_with fail
  go_ret
  exact ⟨rfl, hB3, HF2.out.trans hf3⟩
theorem median_ltU (d : Array Nat) {a b c n : Nat} (s : Nat) (ha : a < n) (hb : b < n) (hc : c < n) : (median ltU d a b c s).1 < n ∧ (median ltU d a b c s).2 ≤ s + 3 := by
  have l1 := order2_ltU d s ha hb
  have l2 := order2_ltU d (order2 ltU d a b s).2.2 l1.2 hc
  have l3 := order2_ltU d (order2 ltU d (order2 ltU d a b s).2.1 c (order2 ltU d a b s).2.2).2.2 l1.1 l2.1
  have s1 := order2_swU d a b s
  have s2 := order2_swU d (order2 ltU d a b s).2.1 c (order2 ltU d a b s).2.2
  have s3 := order2_swU d (order2 ltU d a b s).1 (order2 ltU d (order2 ltU d a b s).2.1 c (order2 ltU d a b s).2.2).1 (order2 ltU d (order2 ltU d a b s).2.1 c (order2 ltU d a b s).2.2).2.2
  exact ⟨l3.2, Nat.le_trans s3 (by omega)⟩
set_option maxRecDepth 100000 in
theorem medianAdjacentU (g o cap len : Nat) (d : Array Nat) (hlen : d.size = len) (a sb s : Nat) (w : World) (hH : Holds encU w g o d) (ha0 : 1 ≤ a) (ha : a + 1 < d.size) (hsz : d.size < 4611686018427387904) (hS : Box w sb 3 (.int .i64 s)) (hs : s < 900) (hne : g ≠ sb) :
    Calls Tryz.prog 190 #[.slice (some ⟨g, o, none⟩) len cap, .int .i64 a, .pointer (some ⟨sb, 0, none⟩)] w fun e w' =>
      e = .returned (.int .i64 ((medianAdjacent ltU d a s).1 : Nat)) ∧ Box w' sb 3 (.int .i64 ((medianAdjacent ltU d a s).2 : Nat)) ∧ Fr (One sb) w w' := by
  have hc := medianU g o cap len d hlen (a - 1) a (a + 1) sb s w hH (by omega) (by omega) ha hS hs hne
  rw [show ((a - 1 : Nat) : Int) = (a : Int) - 1 by omega, show ((a + 1 : Nat) : Int) = (a : Int) + 1 by omega] at hc
  have HC := Lib.hid hc
  clear hc hH hS hlen
  go_enter Tryz.func190, Tryz.ntmps190
  go_wp2_with (go_at_call 191; refine HC.out.mono ?_; rintro e w' ⟨rfl, h1, h2⟩)
  go_ret
  exact ⟨rfl, h1, h2⟩
theorem medianAdjacent_ltU (d : Array Nat) {a n : Nat} (s : Nat) (ha0 : 1 ≤ a) (ha : a + 1 < n) : (medianAdjacent ltU d a s).1 < n ∧ (medianAdjacent ltU d a s).2 ≤ s + 3 := median_ltU d s (by omega) (by omega) ha
end Go.Proofs.YthnfkjcndidoaaaGreatDoor
