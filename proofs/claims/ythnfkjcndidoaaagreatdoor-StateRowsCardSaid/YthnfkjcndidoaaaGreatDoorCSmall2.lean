import Derived.Test.YthnfkjcndidoaaaGreatDoorCSmall
import Derived.Laws.ResultCell
set_option linter.unusedVariables false
set_option linter.unusedSimpArgs false
namespace Go.Proofs.YthnfkjcndidoaaaGreatDoor
open Go.RowKit Go.Shelf

/-! ### state.Find -/
theorem results_file_tmp {fn : Func} {p u : Tmp} (h : fn.results = #[.cell p 32, .tmp u]) (tmps : Array Value) (w : World) (g : Nat) (t : TypeId) (v1 v2 v3 : Value) (fr : Nat × Nat)
    (hp : tmps.getD p undef = .pointer (some ⟨g, 0, none⟩)) (hg : w.heap[g]? = some (.cells #[v1, v2, v3] t fr)) :
    (results fn tmps).run Tryz.prog w = .ok (.tuple #[.agg #[v1, v2, v3], tmps.getD u undef]) w := by
  have e := run_loadVar_row (ty := 32) w g t #[v1, v2, v3] fr _ hg Tryz.underlying32 rfl (by kernel_rfl)
  rw [results_cell_tmp h, hp]
  simp [asAddr, e, Result.andThen]
def noFile : Fl := ⟨⟨#[]⟩, [], []⟩
def findL (l : List Fl) (path : ByteArray) : Fl × Bool := match l.find? fun f => decide (f.path = path) with | some f => (f, true) | none => (noFile, false)
theorem find_none {l : List Fl} {p : Fl → Bool} (h : at1 p l < 0) : l.find? p = none := by
  unfold at1 at h
  cases hf : l.findIdx? p with
  | none =>
    rw [List.findIdx?_eq_none_iff] at hf
    rw [List.find?_eq_none]
    intro x hx
    simp [hf x hx]
  | some i =>
    rw [hf] at h
    have h : ((i : Nat) : Int) < 0 := h
    omega
theorem find_some {l : List Fl} {p : Fl → Bool} {k : Nat} {x : Fl} (h : at1 p l = k) (hx : l[k]? = some x) : l.find? p = some x := by
  unfold at1 at h
  cases hf : l.findIdx? p with
  | none =>
    rw [hf] at h
    have h : (-1 : Int) = k := h
    omega
  | some i =>
    rw [hf] at h
    have h : ((i : Nat) : Int) = k := h
    obtain rfl : i = k := by omega
    obtain ⟨hi, h1, h2⟩ := List.findIdx?_eq_some_iff_getElem.1 hf
    rw [List.find?_eq_some_iff_getElem]
    obtain ⟨hk, rfl⟩ := List.getElem?_eq_some_iff.1 hx
    exact ⟨h1, i, hk, rfl, fun j hj => by have := h2 j hj; simpa using this⟩
theorem enters_find1 : Enters Tryz.prog 38 := enters_of Tryz.func38 (by kernel_rfl) rfl
theorem find1 {W0 : World} {B : Nat} {path : ByteArray} (hB : Box W0 B 9 (.string path)) (x : Fl) (W : World) (v : Value) (hf : Fr No W0 W) (hv : flV W x v) :
    Calls Tryz.prog 38 (#[v] ++ #[.pointer (some ⟨B, 0, none⟩)]) W fun e w' => e = .returned (.bool (decide (x.path = path))) ∧ Fr No W w' := by
  obtain ⟨Al, cl, Ap, cp, rfl, h1, h2⟩ := hv
  have c1 := ((hB.fr hf (fun e => e)).old (.cells #[.string x.path, .slice Al x.lines.length cl, .slice Ap x.pairs.length cp] 32)).cell
  clear hf hB h1 h2
  show Calls Tryz.prog 38 #[.agg #[.string x.path, .slice Al x.lines.length cl, .slice Ap x.pairs.length cp], .pointer (some ⟨B, 0, none⟩)] W _
  go_enter Tryz.func38, Tryz.ntmps38
  go_wp2
  go_ret
  exact ⟨by rw [← str_eq]; rfl, Fr.alloc _ _ _⟩
set_option maxHeartbeats 4000000 in
set_option maxRecDepth 100000 in
theorem find_any {w : World} {A : Option Addr} {c : Nat} {l : List Fl} (h : SlIs rFl w (.slice A l.length c) l) (path : ByteArray) :
    Calls Tryz.prog 12 #[.slice A l.length c, .string path] w fun e w' => ∃ (x : Fl) (Al : Option Addr) (cl : Nat) (Ap : Option Addr) (cp : Nat) (is : Bool), e = .returned (.tuple #[.agg #[.string x.path, .slice Al x.lines.length cl, .slice Ap x.pairs.length cp], .bool is]) ∧ FlV w' x Al cl Ap cp ∧ findL l path = (x, is) ∧ Fr No w w' := by
  obtain ⟨_, _, _, _, hb⟩ := h.form
  have hB : Box ((w.alloc (.cells #[.string path] 9)).alloc (.cells #[.string ⟨#[]⟩, .slice none 0 0, .slice none 0 0] 32)) w.heap.size 9 (.string path) := (Box.new _ _ _).old _
  have hR : ((w.alloc (.cells #[.string path] 9)).alloc (.cells #[.string ⟨#[]⟩, .slice none 0 0, .slice none 0 0] 32)).heap[w.heap.size + 1]? = some (.cells #[.string ⟨#[]⟩, .slice none 0 0, .slice none 0 0] 32 (0, 0)) := by
    have := heap_last (w.alloc (.cells #[.string path] 9)) (.cells #[.string ⟨#[]⟩, .slice none 0 0, .slice none 0 0] 32)
    rwa [World.size_alloc] at this
  have hf : Fr No w ((w.alloc (.cells #[.string path] 9)).alloc (.cells #[.string ⟨#[]⟩, .slice none 0 0, .slice none 0 0] 32)) := (Fr.alloc _ _ _).trans (Fr.alloc _ _ _)
  have hsk := seekFl (h.fr hf) enters_find1 (fun f => decide (f.path = path)) (fun x W v hW hv => find1 hB x W v hW hv)
  have HSK := Lib.hid (And.intro hsk (And.intro hR (And.intro hf h)))
  have hrg := at1_range (fun f : Fl => decide (f.path = path)) l
  clear hB hsk hR hf h
  generalize hm : at1 (fun f : Fl => decide (f.path = path)) l = m at HSK hrg
  have HM := Lib.hid hm
  clear hm
  by_cases hneg : m < 0
  · go_enter Tryz.func12, Tryz.ntmps12
    go_wp2_with (go_at_call 37; refine HSK.out.1.mono ?_; rintro e w2 ⟨rfl, hf2⟩; have hh := hf2.heap (fun e => e) HSK.out.2.1; have z0 := frozen_of_heap hh 0; have z1 := frozen_of_heap hh 1; have z2 := frozen_of_heap hh 2; have c0 := cell_of_heap hh 0; have c1 := cell_of_heap hh 1; have c2 := cell_of_heap hh 2)
    refine bodyPost_ret (results_file_tmp rfl _ _ (w.heap.size + 1) 32 (.string ⟨#[]⟩) (.slice none 0 0) (.slice none 0 0) (0, 0) rfl (by simp [World.setCell, Array.getElem?_modify, hh])) rfl ?_
    refine ⟨noFile, none, 0, none, 0, false, rfl, ⟨slNil _ _, slNil _ _⟩, by rw [findL, find_none (by rw [HM.out]; exact hneg)], ?_⟩
    have hfr : Fr (One (w.heap.size + 1)) w2 (((w2.setCell ⟨w.heap.size + 1, 0, none⟩ (.string ⟨#[]⟩)).setCell ⟨w.heap.size + 1, 1, none⟩ (.slice none 0 0)).setCell ⟨w.heap.size + 1, 2, none⟩ (.slice none 0 0)) := ((Fr.set1 _ _ 0 _).trans (Fr.set1 _ _ 1 _)).trans (Fr.set1 _ _ 2 _)
    exact (HSK.out.2.2.1.trans hf2).comp hfr (fun _ _ e => e) (fun i hi e => by have e : i = w.heap.size + 1 := e; omega)
  · obtain ⟨k, rfl⟩ : ∃ k : Nat, m = k := ⟨m.toNat, by omega⟩
    have hk : k < l.length := by omega
    obtain ⟨b, o, x, Al, cl, Ap, cp, rfl, hx, q0, q1, q2, s1, s2⟩ := at_fl HSK.out.2.2.2 k hk
    have HX := Lib.hid (And.intro hx (And.intro q0 (And.intro q1 (And.intro q2 (And.intro s1 s2)))))
    clear hx q0 q1 q2 s1 s2
    go_enter Tryz.func12, Tryz.ntmps12
    go_wp2_with (go_at_call 37; refine HSK.out.1.mono ?_; rintro e w2 ⟨rfl, hf2⟩; have hh := hf2.heap (fun e => e) HSK.out.2.1; have z0 := frozen_of_heap hh 0; have z1 := frozen_of_heap hh 1; have z2 := frozen_of_heap hh 2; have c0 := cell_of_heap hh 0; have c1 := cell_of_heap hh 1; have c2 := cell_of_heap hh 2; have q0 := (HSK.out.2.2.1.trans hf2).cell (fun e => e) HX.out.2.1; have q1 := (HSK.out.2.2.1.trans hf2).cell (fun e => e) HX.out.2.2.1; have q2 := (HSK.out.2.2.1.trans hf2).cell (fun e => e) HX.out.2.2.2.1)
    refine bodyPost_ret (results_file_tmp rfl _ _ (w.heap.size + 1) 32 (.string x.path) (.slice Al x.lines.length cl) (.slice Ap x.pairs.length cp) (0, 0) rfl (by simp [World.setCell, Array.getElem?_modify, hh])) rfl ?_
    have hfr : Fr (One (w.heap.size + 1)) w2 (((w2.setCell ⟨w.heap.size + 1, 0, none⟩ (.string x.path)).setCell ⟨w.heap.size + 1, 1, none⟩ (.slice Al x.lines.length cl)).setCell ⟨w.heap.size + 1, 2, none⟩ (.slice Ap x.pairs.length cp)) := ((Fr.set1 _ _ 0 _).trans (Fr.set1 _ _ 1 _)).trans (Fr.set1 _ _ 2 _)
    have hfw := (HSK.out.2.2.1.trans hf2).comp hfr (T := No) (fun _ _ e => e) (fun i hi e => by have e : i = w.heap.size + 1 := e; omega)
    refine ⟨x, Al, cl, Ap, cp, true, rfl, ⟨HX.out.2.2.2.2.1.fr hfw, HX.out.2.2.2.2.2.fr hfw⟩, by rw [findL, find_some HM.out HX.out.1], hfw⟩
end Go.Proofs.YthnfkjcndidoaaaGreatDoor
