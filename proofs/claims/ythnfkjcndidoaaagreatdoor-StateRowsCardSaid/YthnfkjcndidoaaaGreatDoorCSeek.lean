import Derived.Test.YthnfkjcndidoaaaGreatDoorCStr
set_option linter.unusedVariables false
set_option linter.unusedSimpArgs false
namespace Go.Proofs.YthnfkjcndidoaaaGreatDoor
open Go.RowKit Go.Shelf

/-- What a function value tells of a value. -/
def Tells (gf : Nat) (caps : Array Value) (W0 : World) (v : Value) (b : Bool) : Prop := ∀ W, Fr No W0 W → Calls Tryz.prog gf (#[v] ++ caps) W fun e w' => e = .returned (.bool b) ∧ Fr No W w'
def at1 {α : Type} (p : α → Bool) (l : List α) : Int := match l.findIdx? p with | some i => i | none => -1
theorem at1_none {α : Type} {p : α → Bool} {l : List α} {k : Nat} (h : (l.take k).all (fun x => !p x) = true) (hk : l.length ≤ k) : at1 p l = -1 := by
  rw [List.take_of_length_le hk] at h
  have : l.findIdx? p = none := by
    rw [List.findIdx?_eq_none_iff]
    intro x hx
    have := List.all_eq_true.1 h x hx
    simpa using this
  rw [at1, this]
theorem at1_some {α : Type} {p : α → Bool} {l : List α} {k : Nat} {x : α} (h : (l.take k).all (fun x => !p x) = true) (hx : l[k]? = some x) (hp : p x = true) : at1 p l = k := by
  have : l.findIdx? p = some k := by
    obtain ⟨hk, he⟩ := List.getElem?_eq_some_iff.1 hx
    rw [List.findIdx?_eq_some_iff_getElem]
    refine ⟨hk, by rw [he]; exact hp, fun j hj => ?_⟩
    have := List.all_eq_true.1 h l[j] (by rw [List.mem_take_iff_getElem]; exact ⟨j, by omega, rfl⟩)
    simpa using this
  rw [at1, this]

set_option maxHeartbeats 1000000 in
set_option maxRecDepth 100000 in
theorem seekU32 {w : World} {A : Option Addr} {c : Nat} {l : List Nat} (h : SlIs rU32 w (.slice A l.length c) l) {gf : Nat} {caps : Array Value} (eg : Enters Tryz.prog gf) (p : Nat → Bool) (hp : ∀ x : Nat, Tells gf caps w (.int .u32 x) (p x)) :
    Calls Tryz.prog 74 #[.slice A l.length c, .func (.func gf) #[] caps] w fun e w' => e = .returned (.int .i64 (at1 p l)) ∧ Fr No w w' := by
  have H := Lib.hid h
  have HP := Lib.hid hp
  obtain ⟨_, _, _, _, hb⟩ := h.form
  clear h hp
  go_enter Tryz.func74, Tryz.ntmps74
  go_wp2
  go_loopw [8] (fun i wr => ∃ k : Nat, i = .int .i64 k ∧ k ≤ l.length ∧ Hid ((l.take k).all (fun x => !p x) = true) ∧ Hid (Fr No w wr)) (fun i _ => l.length - (intOf i).toNat)
  case atStart => exact ⟨0, rfl, Nat.zero_le _, Lib.hid (by simp), Lib.hid (Fr.refl _ _)⟩
  case round =>
    obtain ⟨k, rfl, hk, hall, hf⟩ := hrel
    by_cases hlt : k < l.length
    · obtain ⟨b, o, x, rfl, hx, k0⟩ := at_u32 (H.out.fr hf.out) k hlt
      have HX := Lib.hid hx
      clear hx
      cases hv : p x with
      | true =>
        have HV := Lib.hid hv
        clear hv
        go_wp2_with (rw [eg]; go_wp2_with (refine (HP.out x _ hf.out).mono ?_; rw [HV.out]; rintro e w' ⟨rfl, hf1⟩))
        go_ret
        exact ⟨by rw [at1_some hall.out HX.out HV.out]; rfl, hf.out.trans hf1⟩
      | false =>
        have HV := Lib.hid hv
        clear hv
        go_wp2_with (rw [eg]; go_wp2_with (refine (HP.out x _ hf.out).mono ?_; rw [HV.out]; rintro e w' ⟨rfl, hf1⟩))
        go_roundw
        case rel => exact ⟨k + 1, by go_num, by omega, Lib.hid (all_take_succ hall.out HX.out (by simp [HV.out])), Lib.hid (hf.out.trans hf1)⟩
        case measure => simp [intOf]; omega
    · go_wp2
      go_ret
      exact ⟨by rw [at1_none hall.out (by omega)]; rfl, hf.out⟩
set_option maxHeartbeats 1000000 in
set_option maxRecDepth 100000 in
theorem seekStr {w : World} {A : Option Addr} {c : Nat} {l : List ByteArray} (h : SlIs rStr w (.slice A l.length c) l) {gf : Nat} {caps : Array Value} (eg : Enters Tryz.prog gf) (p : ByteArray → Bool) (hp : ∀ x : ByteArray, Tells gf caps w (.string x) (p x)) :
    Calls Tryz.prog 124 #[.slice A l.length c, .func (.func gf) #[] caps] w fun e w' => e = .returned (.int .i64 (at1 p l)) ∧ Fr No w w' := by
  have H := Lib.hid h
  have HP := Lib.hid hp
  obtain ⟨_, _, _, _, hb⟩ := h.form
  clear h hp
  go_enter Tryz.func124, Tryz.ntmps124
  go_wp2
  go_loopw [8] (fun i wr => ∃ k : Nat, i = .int .i64 k ∧ k ≤ l.length ∧ Hid ((l.take k).all (fun x => !p x) = true) ∧ Hid (Fr No w wr)) (fun i _ => l.length - (intOf i).toNat)
  case atStart => exact ⟨0, rfl, Nat.zero_le _, Lib.hid (by simp), Lib.hid (Fr.refl _ _)⟩
  case round =>
    obtain ⟨k, rfl, hk, hall, hf⟩ := hrel
    by_cases hlt : k < l.length
    · obtain ⟨b, o, x, rfl, hx, k0⟩ := at_str (H.out.fr hf.out) k hlt
      have HX := Lib.hid hx
      clear hx
      cases hv : p x with
      | true =>
        have HV := Lib.hid hv
        clear hv
        go_wp2_with (rw [eg]; go_wp2_with (refine (HP.out x _ hf.out).mono ?_; rw [HV.out]; rintro e w' ⟨rfl, hf1⟩))
        go_ret
        exact ⟨by rw [at1_some hall.out HX.out HV.out]; rfl, hf.out.trans hf1⟩
      | false =>
        have HV := Lib.hid hv
        clear hv
        go_wp2_with (rw [eg]; go_wp2_with (refine (HP.out x _ hf.out).mono ?_; rw [HV.out]; rintro e w' ⟨rfl, hf1⟩))
        go_roundw
        case rel => exact ⟨k + 1, by go_num, by omega, Lib.hid (all_take_succ hall.out HX.out (by simp [HV.out])), Lib.hid (hf.out.trans hf1)⟩
        case measure => simp [intOf]; omega
    · go_wp2
      go_ret
      exact ⟨by rw [at1_none hall.out (by omega)]; rfl, hf.out⟩
set_option maxHeartbeats 1000000 in
set_option maxRecDepth 100000 in
theorem seekLn {w : World} {A : Option Addr} {c : Nat} {l : List Ln} (h : SlIs rLn w (.slice A l.length c) l) {gf : Nat} {caps : Array Value} (eg : Enters Tryz.prog gf) (p : Ln → Bool) (hp : ∀ x : Ln, Tells gf caps w (.agg #[.int .u32 x.id.p, .int .i64 x.id.n, .string x.text, .bool x.dead]) (p x)) :
    Calls Tryz.prog 39 #[.slice A l.length c, .func (.func gf) #[] caps] w fun e w' => e = .returned (.int .i64 (at1 p l)) ∧ Fr No w w' := by
  have H := Lib.hid h
  have HP := Lib.hid hp
  obtain ⟨_, _, _, _, hb⟩ := h.form
  clear h hp
  go_enter Tryz.func39, Tryz.ntmps39
  go_wp2
  go_loopw [8] (fun i wr => ∃ k : Nat, i = .int .i64 k ∧ k ≤ l.length ∧ Hid ((l.take k).all (fun x => !p x) = true) ∧ Hid (Fr No w wr)) (fun i _ => l.length - (intOf i).toNat)
  case atStart => exact ⟨0, rfl, Nat.zero_le _, Lib.hid (by simp), Lib.hid (Fr.refl _ _)⟩
  case round =>
    obtain ⟨k, rfl, hk, hall, hf⟩ := hrel
    by_cases hlt : k < l.length
    · obtain ⟨b, o, x, rfl, hx, k0, k1, k2, k3⟩ := at_ln (H.out.fr hf.out) k hlt
      have HX := Lib.hid hx
      clear hx
      cases hv : p x with
      | true =>
        have HV := Lib.hid hv
        clear hv
        go_wp2_with (rw [eg]; go_wp2_with (refine (HP.out x _ hf.out).mono ?_; rw [HV.out]; rintro e w' ⟨rfl, hf1⟩))
        go_ret
        exact ⟨by rw [at1_some hall.out HX.out HV.out]; rfl, hf.out.trans hf1⟩
      | false =>
        have HV := Lib.hid hv
        clear hv
        go_wp2_with (rw [eg]; go_wp2_with (refine (HP.out x _ hf.out).mono ?_; rw [HV.out]; rintro e w' ⟨rfl, hf1⟩))
        go_roundw
        case rel => exact ⟨k + 1, by go_num, by omega, Lib.hid (all_take_succ hall.out HX.out (by simp [HV.out])), Lib.hid (hf.out.trans hf1)⟩
        case measure => simp [intOf]; omega
    · go_wp2
      go_ret
      exact ⟨by rw [at1_none hall.out (by omega)]; rfl, hf.out⟩
/-- A file's value in W. -/
def flV (W : World) (x : Fl) (v : Value) : Prop := ∃ Al cl Ap cp, v = .agg #[.string x.path, .slice Al x.lines.length cl, .slice Ap x.pairs.length cp] ∧ SlIs rLn W (.slice Al x.lines.length cl) x.lines ∧ SlIs rPr W (.slice Ap x.pairs.length cp) x.pairs
set_option maxHeartbeats 1000000 in
set_option maxRecDepth 100000 in
theorem seekFl {w : World} {A : Option Addr} {c : Nat} {l : List Fl} (h : SlIs rFl w (.slice A l.length c) l) {gf : Nat} {caps : Array Value} (eg : Enters Tryz.prog gf) (p : Fl → Bool) (hp : ∀ (x : Fl) (W : World) (v : Value), Fr No w W → flV W x v → Calls Tryz.prog gf (#[v] ++ caps) W fun e w' => e = .returned (.bool (p x)) ∧ Fr No W w') :
    Calls Tryz.prog 37 #[.slice A l.length c, .func (.func gf) #[] caps] w fun e w' => e = .returned (.int .i64 (at1 p l)) ∧ Fr No w w' := by
  have H := Lib.hid h
  have HP := Lib.hid hp
  obtain ⟨_, _, _, _, hb⟩ := h.form
  clear h hp
  go_enter Tryz.func37, Tryz.ntmps37
  go_wp2
  go_loopw [8] (fun i wr => ∃ k : Nat, i = .int .i64 k ∧ k ≤ l.length ∧ Hid ((l.take k).all (fun x => !p x) = true) ∧ Hid (Fr No w wr)) (fun i _ => l.length - (intOf i).toNat)
  case atStart => exact ⟨0, rfl, Nat.zero_le _, Lib.hid (by simp), Lib.hid (Fr.refl _ _)⟩
  case round =>
    obtain ⟨k, rfl, hk, hall, hf⟩ := hrel
    by_cases hlt : k < l.length
    · obtain ⟨b, o, x, Al, cl, Ap, cp, rfl, hx, k0, k1, k2, s1, s2⟩ := at_fl (H.out.fr hf.out) k hlt
      have HX := Lib.hid hx
      have HS := Lib.hid (And.intro s1 s2)
      clear hx s1 s2
      cases hv : p x with
      | true =>
        have HV := Lib.hid hv
        clear hv
        go_wp2_with (rw [eg]; go_wp2_with (refine (HP.out x _ _ hf.out ⟨_, _, _, _, rfl, HS.out.1, HS.out.2⟩).mono ?_; rw [HV.out]; rintro e w' ⟨rfl, hf1⟩))
        go_ret
        exact ⟨by rw [at1_some hall.out HX.out HV.out]; rfl, hf.out.trans hf1⟩
      | false =>
        have HV := Lib.hid hv
        clear hv
        go_wp2_with (rw [eg]; go_wp2_with (refine (HP.out x _ _ hf.out ⟨_, _, _, _, rfl, HS.out.1, HS.out.2⟩).mono ?_; rw [HV.out]; rintro e w' ⟨rfl, hf1⟩))
        go_roundw
        case rel => exact ⟨k + 1, by go_num, by omega, Lib.hid (all_take_succ hall.out HX.out (by simp [HV.out])), Lib.hid (hf.out.trans hf1)⟩
        case measure => simp [intOf]; omega
    · go_wp2
      go_ret
      exact ⟨by rw [at1_none hall.out (by omega)]; rfl, hf.out⟩

theorem at1_range {α : Type} (p : α → Bool) (l : List α) : -1 ≤ at1 p l ∧ at1 p l < l.length := by
  unfold at1
  split
  · rename_i i h
    obtain ⟨h, _⟩ := List.findIdx?_eq_some_iff_getElem.1 h
    omega
  · omega
theorem at1_any {α : Type} (p : α → Bool) (l : List α) : decide (0 ≤ at1 p l) = l.any p := by
  unfold at1
  cases h : l.findIdx? p with
  | none =>
    rw [List.findIdx?_eq_none_iff] at h
    have : l.any p = false := by
      rw [List.any_eq_false]; intro x hx; simp [h x hx]
    simp [this]
  | some i =>
    obtain ⟨hi, h1, _⟩ := List.findIdx?_eq_some_iff_getElem.1 h
    have : l.any p = true := List.any_eq_true.2 ⟨_, List.getElem_mem hi, h1⟩
    simp [this]
theorem hasfU32 {w : World} {A : Option Addr} {c : Nat} {l : List Nat} (h : SlIs rU32 w (.slice A l.length c) l) {gf : Nat} {caps : Array Value} (eg : Enters Tryz.prog gf) (p : Nat → Bool) (hp : ∀ x : Nat, Tells gf caps w (.int .u32 x) (p x)) :
    Calls Tryz.prog 45 #[.slice A l.length c, .func (.func gf) #[] caps] w fun e w' => e = .returned (.bool (l.any p)) ∧ Fr No w w' := by
  have H := Lib.hid h
  have HP := Lib.hid hp
  have hr := at1_range p l
  obtain ⟨_, _, _, _, hb⟩ := h.form
  clear h hp
  go_enter Tryz.func45, Tryz.ntmps45
  go_wp2_with (go_at_call 74; refine (seekU32 H.out eg p HP.out).mono ?_; rintro e w' ⟨rfl, hf1⟩)
  go_ret
  exact ⟨by rw [← at1_any]; rfl, hf1⟩
theorem hasfStr {w : World} {A : Option Addr} {c : Nat} {l : List ByteArray} (h : SlIs rStr w (.slice A l.length c) l) {gf : Nat} {caps : Array Value} (eg : Enters Tryz.prog gf) (p : ByteArray → Bool) (hp : ∀ x : ByteArray, Tells gf caps w (.string x) (p x)) :
    Calls Tryz.prog 86 #[.slice A l.length c, .func (.func gf) #[] caps] w fun e w' => e = .returned (.bool (l.any p)) ∧ Fr No w w' := by
  have H := Lib.hid h
  have HP := Lib.hid hp
  have hr := at1_range p l
  obtain ⟨_, _, _, _, hb⟩ := h.form
  clear h hp
  go_enter Tryz.func86, Tryz.ntmps86
  go_wp2_with (go_at_call 124; refine (seekStr H.out eg p HP.out).mono ?_; rintro e w' ⟨rfl, hf1⟩)
  go_ret
  exact ⟨by rw [← at1_any]; rfl, hf1⟩

theorem str_eq (v x : ByteArray) : (v.toList == x.toList) = decide (v = x) := by
  by_cases h : v = x
  · simp [h]
  · have : v.toList ≠ x.toList := fun e => h (bytes_ext e)
    simp [h, this]
theorem nat_eq (v x : Nat) : ((v : Int) == (x : Int)) = decide (v = x) := by
  by_cases h : v = x
  · simp [h]
  · have : (v : Int) ≠ (x : Int) := by omega
    simp [h, this]
set_option maxHeartbeats 1000000 in
set_option maxRecDepth 100000 in
theorem indexU32 {w : World} {A : Option Addr} {c : Nat} {l : List Nat} (h : SlIs rU32 w (.slice A l.length c) l) (v : Nat) :
    Calls Tryz.prog 152 #[.slice A l.length c, (.int .u32 v)] w fun e w' => e = .returned (.int .i64 (at1 (fun x => decide (v = x)) l)) ∧ Fr No w w' := by
  have H := Lib.hid h
  obtain ⟨_, _, _, _, hb⟩ := h.form
  clear h
  go_enter Tryz.func152, Tryz.ntmps152
  go_wp2
  go_loopw [8] (fun i wr => ∃ k : Nat, i = .int .i64 k ∧ k ≤ l.length ∧ Hid ((l.take k).all (fun x => !decide (v = x)) = true) ∧ Hid (Fr No w wr)) (fun i _ => l.length - (intOf i).toNat)
  case atStart => exact ⟨0, rfl, Nat.zero_le _, Lib.hid (by simp), Lib.hid (Fr.refl _ _)⟩
  case round =>
    obtain ⟨k, rfl, hk, hall, hf⟩ := hrel
    by_cases hlt : k < l.length
    · obtain ⟨b, o, x, rfl, hx, k0⟩ := at_u32 (H.out.fr hf.out) k hlt
      have HX := Lib.hid hx
      clear hx
      by_cases hv : v = x
      · have HV := Lib.hid hv
        have ht : ((v : Int) == (x : Int)) = true := (nat_eq v x).trans (by simp [hv])
        clear hv
        go_wp2
        go_ret
        exact ⟨by rw [at1_some hall.out HX.out (by simp [HV.out])]; rfl, hf.out⟩
      · have HV := Lib.hid hv
        have ht : ((v : Int) == (x : Int)) = false := (nat_eq v x).trans (by simp [hv])
        clear hv
        go_wp2
        go_roundw
        case rel => exact ⟨k + 1, by go_num, by omega, Lib.hid (all_take_succ hall.out HX.out (by simp [HV.out])), Lib.hid hf.out⟩
        case measure => simp [intOf]; omega
    · go_wp2
      go_ret
      exact ⟨by rw [at1_none hall.out (by omega)]; rfl, hf.out⟩
set_option maxHeartbeats 1000000 in
set_option maxRecDepth 100000 in
theorem indexStr {w : World} {A : Option Addr} {c : Nat} {l : List ByteArray} (h : SlIs rStr w (.slice A l.length c) l) (v : ByteArray) :
    Calls Tryz.prog 125 #[.slice A l.length c, (.string v)] w fun e w' => e = .returned (.int .i64 (at1 (fun x => decide (v = x)) l)) ∧ Fr No w w' := by
  have H := Lib.hid h
  obtain ⟨_, _, _, _, hb⟩ := h.form
  clear h
  go_enter Tryz.func125, Tryz.ntmps125
  go_wp2
  go_loopw [8] (fun i wr => ∃ k : Nat, i = .int .i64 k ∧ k ≤ l.length ∧ Hid ((l.take k).all (fun x => !decide (v = x)) = true) ∧ Hid (Fr No w wr)) (fun i _ => l.length - (intOf i).toNat)
  case atStart => exact ⟨0, rfl, Nat.zero_le _, Lib.hid (by simp), Lib.hid (Fr.refl _ _)⟩
  case round =>
    obtain ⟨k, rfl, hk, hall, hf⟩ := hrel
    by_cases hlt : k < l.length
    · obtain ⟨b, o, x, rfl, hx, k0⟩ := at_str (H.out.fr hf.out) k hlt
      have HX := Lib.hid hx
      clear hx
      by_cases hv : v = x
      · have HV := Lib.hid hv
        have ht : (v.toList == x.toList) = true := (str_eq v x).trans (by simp [hv])
        clear hv
        go_wp2
        go_ret
        exact ⟨by rw [at1_some hall.out HX.out (by simp [HV.out])]; rfl, hf.out⟩
      · have HV := Lib.hid hv
        have ht : (v.toList == x.toList) = false := (str_eq v x).trans (by simp [hv])
        clear hv
        go_wp2
        go_roundw
        case rel => exact ⟨k + 1, by go_num, by omega, Lib.hid (all_take_succ hall.out HX.out (by simp [HV.out])), Lib.hid hf.out⟩
        case measure => simp [intOf]; omega
    · go_wp2
      go_ret
      exact ⟨by rw [at1_none hall.out (by omega)]; rfl, hf.out⟩
theorem hasU32 {w : World} {A : Option Addr} {c : Nat} {l : List Nat} (h : SlIs rU32 w (.slice A l.length c) l) (v : Nat) :
    Calls Tryz.prog 121 #[.slice A l.length c, (.int .u32 v)] w fun e w' => e = .returned (.bool (l.any fun x => decide (v = x))) ∧ Fr No w w' := by
  have H := Lib.hid h
  have hr := at1_range (fun x => decide (v = x)) l
  obtain ⟨_, _, _, _, hb⟩ := h.form
  clear h
  go_enter Tryz.func121, Tryz.ntmps121
  go_wp2_with (go_at_call 152; refine (indexU32 H.out v).mono ?_; rintro e w' ⟨rfl, hf1⟩)
  go_ret
  exact ⟨by rw [← at1_any]; rfl, hf1⟩
theorem hasStr {w : World} {A : Option Addr} {c : Nat} {l : List ByteArray} (h : SlIs rStr w (.slice A l.length c) l) (v : ByteArray) :
    Calls Tryz.prog 88 #[.slice A l.length c, (.string v)] w fun e w' => e = .returned (.bool (l.any fun x => decide (v = x))) ∧ Fr No w w' := by
  have H := Lib.hid h
  have hr := at1_range (fun x => decide (v = x)) l
  obtain ⟨_, _, _, _, hb⟩ := h.form
  clear h
  go_enter Tryz.func88, Tryz.ntmps88
  go_wp2_with (go_at_call 125; refine (indexStr H.out v).mono ?_; rintro e w' ⟨rfl, hf1⟩)
  go_ret
  exact ⟨by rw [← at1_any]; rfl, hf1⟩
end Go.Proofs.YthnfkjcndidoaaaGreatDoor
