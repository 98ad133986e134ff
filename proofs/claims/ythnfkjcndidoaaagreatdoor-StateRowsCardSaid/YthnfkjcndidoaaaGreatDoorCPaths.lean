import Derived.Test.YthnfkjcndidoaaaGreatDoorCSeek
set_option linter.unusedVariables false
set_option linter.unusedSimpArgs false
namespace Go.Proofs.YthnfkjcndidoaaaGreatDoor
open Go.RowKit Go.Shelf

theorem enters_paths1 : Enters Tryz.prog 119 := enters_of Tryz.func119 (by kernel_rfl) rfl
theorem paths1 (W0 : World) (s : ByteArray) : Tells 119 #[] W0 (.string s) (!isPathB s) := by
  intro W hf
  clear hf
  show Calls Tryz.prog 119 #[.string s] W _
  go_enter Tryz.func119, Tryz.ntmps119
  go_wp2_with (go_at_call 89; refine (isPath_any W s).mono ?_; rintro e w' ⟨rfl, rfl⟩)
  go_ret
  exact ⟨rfl, Fr.refl _ _⟩
def pathsB (l : List ByteArray) : Bool := decide (l.length ≤ 6) && (Rises strLt l && !(l.any fun s => !isPathB s))
set_option maxHeartbeats 1000000 in
theorem paths_any {w : World} {A : Option Addr} {c : Nat} {l : List ByteArray} (h : SlIs rStr w (.slice A l.length c) l) :
    Calls Tryz.prog 84 #[.slice A l.length c] w fun e w' => e = .returned (.bool (pathsB l)) ∧ Fr No w w' := by
  have H := Lib.hid h
  obtain ⟨_, _, _, _, hb⟩ := h.form
  clear h
  by_cases h6 : l.length ≤ 6
  · cases hr : Rises strLt l with
    | true =>
      have HR := Lib.hid hr
      clear hr
      go_enter Tryz.func84, Tryz.ntmps84
      go_wp2_with (first | (go_at_call 117; refine (risesStr H.out).mono ?_; rw [HR.out]; rintro e w1 ⟨rfl, hf1⟩) | (go_at_call 86; refine (hasfStr (H.out.fr hf1) enters_paths1 (fun s => !isPathB s) (fun x => paths1 _ x)).mono ?_; rintro e w2 ⟨rfl, hf2⟩))
      go_ret
      exact ⟨by simp [pathsB, h6, HR.out], hf1.trans hf2⟩
    | false =>
      have HR := Lib.hid hr
      clear hr
      go_enter Tryz.func84, Tryz.ntmps84
      go_wp2_with (first | (go_at_call 117; refine (risesStr H.out).mono ?_; rw [HR.out]; rintro e w1 ⟨rfl, hf1⟩))
      go_ret
      exact ⟨by simp [pathsB, h6, HR.out], hf1⟩
  · go_enter Tryz.func84, Tryz.ntmps84
    go_wp2
    go_ret
    exact ⟨by simp [pathsB, h6], Fr.refl _ _⟩

/-- A patch's box. -/
def PtBox (W : World) (b : Nat) (x : Pt) (Ad : Option Addr) (cd : Nat) (Am : Option Addr) (cm : Nat) (Ar : Option Addr) (cr : Nat) (Ah : Option Addr) (ch : Nat) : Prop :=
  W.heap[b]? = some (.cells #[.int .u32 x.id, .slice Ad x.deps.length cd, .slice Am x.makes.length cm, .slice Ar x.drops.length cr, .slice Ah x.hunks.length ch] 52 (0, 0))
theorem PtBox.fr {W W' : World} {b : Nat} {x : Pt} {Ad : Option Addr} {cd : Nat} {Am : Option Addr} {cm : Nat} {Ar : Option Addr} {cr : Nat} {Ah : Option Addr} {ch : Nat} (h : PtBox W b x Ad cd Am cm Ar cr Ah ch) (hf : Fr No W W') : PtBox W' b x Ad cd Am cm Ar cr Ah ch := hf.heap (fun e => e) h
section
variable {W0 : World} {b : Nat} {x : Pt} {Ad : Option Addr} {cd : Nat} {Am : Option Addr} {cm : Nat} {Ar : Option Addr} {cr : Nat} {Ah : Option Addr} {ch : Nat}
theorem enters_is1 : Enters Tryz.prog 87 := enters_of Tryz.func87 (by kernel_rfl) rfl
theorem is1 (hb : PtBox W0 b x Ad cd Am cm Ar cr Ah ch) (hv : PtV W0 x Ad cd Am cm Ar cr Ah ch) (s : ByteArray) : Tells 87 #[.pointer (some ⟨b, 0, none⟩)] W0 (.string s) (x.drops.any fun y => decide (s = y)) := by
  intro W hf
  have H := Lib.hid (hv.fr hf).drops
  have c1 := cell_of_heap (hb.fr hf) 3
  clear hv hb hf
  show Calls Tryz.prog 87 #[(.string s), .pointer (some ⟨b, 0, none⟩)] W _
  go_enter Tryz.func87, Tryz.ntmps87
  go_wp2_with (go_at_call 88; refine (hasStr H.out s).mono ?_; rintro e w1 ⟨rfl, hf1⟩)
  go_ret
  exact ⟨rfl, hf1⟩
theorem enters_deps1 : Enters Tryz.prog 123 := enters_of Tryz.func123 (by kernel_rfl) rfl
theorem deps1 (hb : PtBox W0 b x Ad cd Am cm Ar cr Ah ch) (hv : PtV W0 x Ad cd Am cm Ar cr Ah ch) (s : Nat) : Tells 123 #[.pointer (some ⟨b, 0, none⟩)] W0 (.int .u32 s) (!(x.deps.any fun y => decide (s = y))) := by
  intro W hf
  have H := Lib.hid (hv.fr hf).deps
  have c1 := cell_of_heap (hb.fr hf) 1
  clear hv hb hf
  show Calls Tryz.prog 123 #[(.int .u32 s), .pointer (some ⟨b, 0, none⟩)] W _
  go_enter Tryz.func123, Tryz.ntmps123
  go_wp2_with (go_at_call 121; refine (hasU32 H.out s).mono ?_; rintro e w1 ⟨rfl, hf1⟩)
  go_ret
  exact ⟨rfl, hf1⟩
theorem enters_needs1 : Enters Tryz.prog 154 := enters_of Tryz.func154 (by kernel_rfl) rfl
theorem needs1 (hb : PtBox W0 b x Ad cd Am cm Ar cr Ah ch) (s : Nat) : Tells 154 #[.pointer (some ⟨b, 0, none⟩)] W0 (.int .u32 s) (decide (s = x.id)) := by
  intro W hf
  have c1 := cell_of_heap (hb.fr hf) 0
  clear hb hf
  show Calls Tryz.prog 154 #[.int .u32 s, .pointer (some ⟨b, 0, none⟩)] W _
  go_enter Tryz.func154, Tryz.ntmps154
  go_wp2
  go_ret
  exact ⟨by rw [← nat_eq]; rfl, Fr.refl _ _⟩
end
end Go.Proofs.YthnfkjcndidoaaaGreatDoor
