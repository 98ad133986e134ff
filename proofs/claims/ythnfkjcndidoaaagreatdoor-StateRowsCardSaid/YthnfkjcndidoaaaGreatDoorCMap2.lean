import Derived.Test.YthnfkjcndidoaaaGreatDoorCMap
import Derived.Test.YthnfkjcndidoaaaGreatDoorCHunk
import Derived.WideKeyRuns
set_option linter.unusedVariables false
set_option linter.unusedSimpArgs false
namespace Go.Proofs.YthnfkjcndidoaaaGreatDoor
open Go.RowKit Go.Shelf Go.MapKept
theorem eqLid (w : World) (x y : LId) : (Op.equal 45 (encL x) (encL y)).run Tryz.prog w = .ok (decide (x = y)) w := by
  show (Op.equalIn 10000 45 (.agg #[.int .u32 x.p, .int .i64 x.n]) (.agg #[.int .u32 y.p, .int .i64 y.n])).run Tryz.prog w = _
  by_cases h1 : (x.p : Int) = y.p
  · by_cases h2 : x.n = y.n
    · have := lid_ext h1 h2
      subst this
      go_simp
    · have hne := lid_ne2 h2
      have e2 : (x.n == y.n) = false := by simp [h2]
      rw [hne]
      have e1 : ((x.p : Int) == y.p) = true := by simp [h1]
      clear h1 h2 hne
      go_simp
  · have hne := lid_ne1 h1
    have e1 : ((x.p : Int) == y.p) = false := by simp [h1]
    rw [hne]
    clear hne h1
    go_simp
theorem checkLid (w : World) (em : Bool) (x : LId) : (Instr.checkKey em 10000 45 (encL x)).run Tryz.prog w = .ok () w := by kernel_rfl
theorem staysLid (w : World) (x : LId) : (Instr.keyThatStays (encL x) (encL x)).run Tryz.prog w = .ok (encL x) w := by
  have : Instr.sameBits 10000 (encL x) (encL x) = true := by simp [encL, Instr.sameBits]
  simp [Instr.keyThatStays, this]
theorem askLid (w : World) (x : LId) : ∀ (es : List MapEntry) (i : Nat), (∀ e ∈ es, ∃ y, e.key = encL y) →
    ((Instr.findAsking 45 (encL x) es i).run Tryz.prog w = .ok none w ∧ ∀ e ∈ es, e.key ≠ encL x) ∨ ∃ j e, (Instr.findAsking 45 (encL x) es i).run Tryz.prog w = .ok (some (i + j, e.val)) w ∧ es[j]? = some e ∧ e.key = encL x
  | [], i, _ => .inl ⟨by simp [Instr.findAsking], by simp⟩
  | e :: r, i, h => by
    obtain ⟨y, hy⟩ := h e (.head _)
    have he := eqLid w x y
    by_cases hxy : x = y
    · refine .inr ⟨0, e, ?_, rfl, by rw [hy, hxy]⟩
      rw [hxy] at he
      simp [Instr.findAsking, hy, he, hxy, Result.andThen]
    · rcases askLid w x r (i + 1) (fun e he => h e (.tail _ he)) with ⟨h1, h2⟩ | ⟨j, e', h1, h2, h3⟩
      · refine .inl ⟨by simp [Instr.findAsking, hy, he, hxy, Result.andThen, h1], fun e' he' => ?_⟩
        cases he' with
        | head => rw [hy]; exact fun q => hxy (encL_inj _ _ q).symm
        | tail _ he' => exact h2 e' he'
      · refine .inr ⟨j + 1, e', ?_, by simpa using h2, h3⟩
        simp [Instr.findAsking, hy, he, hxy, Result.andThen, h1]
        omega
theorem keyL : KeyAt 45 encL := by
  refine ⟨encL_inj, checkLid, fun w x es hes => ?_, staysLid⟩
  have e := run_findKey_eq (P := Tryz.prog) (w := w) (k := 45) (by kernel_rfl) (encL x) es
  rw [e]
  simpa using askLid w x es 0 hes
theorem zeroI (w : World) : (zeroValue 3).run Tryz.prog w = .ok (encI 0) w := by kernel_rfl
end Go.Proofs.YthnfkjcndidoaaaGreatDoor
