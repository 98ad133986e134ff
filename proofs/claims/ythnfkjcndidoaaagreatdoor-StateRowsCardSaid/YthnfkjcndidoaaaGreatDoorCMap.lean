import Derived.Test.YthnfkjcndidoaaaGreatDoorCData
import Derived.Maps.OwnIn
import Derived.Test.YthnfkjcndidoaaaGreatDoorProg
set_option linter.unusedVariables false
set_option linter.unusedSimpArgs false
namespace Go.Proofs.YthnfkjcndidoaaaGreatDoor
open Go.RowKit Go.Shelf Go.MapKept

/-! ### Maps that a call makes -/
/-- What a map's key type obeys. -/
structure KeyAt {κ : Type} (k : TypeId) (enc : κ → Value) : Prop where
  inj : ∀ x y, enc x = enc y → x = y
  check : ∀ (w : World) (em : Bool) (x : κ), (Instr.checkKey em 10000 k (enc x)).run Tryz.prog w = .ok () w
  find : ∀ (w : World) (x : κ) (es : List MapEntry), (∀ e ∈ es, ∃ y, e.key = enc y) →
    ((Instr.findKey k (enc x) es).run Tryz.prog w = .ok none w ∧ ∀ e ∈ es, e.key ≠ enc x) ∨ ∃ j e, (Instr.findKey k (enc x) es).run Tryz.prog w = .ok (some (j, e.val)) w ∧ es[j]? = some e ∧ e.key = enc x
  stays : ∀ (w : World) (x : κ), (Instr.keyThatStays (enc x) (enc x)).run Tryz.prog w = .ok (enc x) w
theorem keyAt_plain {κ : Type} {k : TypeId} {enc : κ → Value} {d : TypeDesc} (hd : Tryz.prog.underlying k = some d) (hk : ∀ x, IsKey d (enc x)) (inj : ∀ x y, enc x = enc y → x = y) : KeyAt k enc := by
  refine ⟨inj, fun w em x => run_checkKey hd (hk x) em 9999, fun w x es hes => ?_, fun w x => run_keyThatStays (hk x)⟩
  have hks : ∀ e ∈ es, IsKey d e.key := fun e he => by
    obtain ⟨y, hy⟩ := hes e he
    rw [hy]; exact hk y
  rcases findNow_spec (hk x) es 0 hks with ⟨h1, h2⟩ | ⟨j, e, h1, h2, h3⟩
  · exact .inl ⟨run_findKey hd h1, h2⟩
  · exact .inr ⟨j, e, by simpa using run_findKey hd h1, h2, h3⟩

section
variable {κ β : Type} {encK : κ → Value} {encV : β → Value}
/-- Block b is a map that tells f. -/
def MpIs (encK : κ → Value) (encV : β → Value) (w : World) (b : Nat) (f : κ → Option β) : Prop :=
  ∃ es clock, w.heap[b]? = some (.map es clock) ∧ (∀ (i : Nat) (e : MapEntry), es[i]? = some e → ∃ x v, e.key = encK x ∧ e.val = encV v) ∧
    (∀ (i j : Nat) (e e' : MapEntry), es[i]? = some e → es[j]? = some e' → e.key = e'.key → i = j) ∧
    ∀ x v, f x = some v ↔ ∃ (i : Nat) (e : MapEntry), es[i]? = some e ∧ e.key = encK x ∧ e.val = encV v
theorem MpIs.made (w : World) : MpIs encK encV (w.alloc (.map #[] 0)) w.heap.size (fun _ => none) :=
  ⟨#[], 0, (MapKept.heap_alloc w _).1, by simp, by simp, by simp⟩
theorem MpIs.fr {S : Nat → Prop} {w w' : World} {b : Nat} {f : κ → Option β} (h : MpIs encK encV w b f) (hf : Fr S w w') (hn : ¬ S b) : MpIs encK encV w' b f := by
  obtain ⟨es, clock, h1, h2, h3, h4⟩ := h
  exact ⟨es, clock, hf.heap hn h1, h2, h3, h4⟩
theorem MpIs.lt {w : World} {b : Nat} {f : κ → Option β} (h : MpIs encK encV w b f) : b < w.heap.size := by
  obtain ⟨es, clock, h1, _⟩ := h
  exact (Array.getElem?_eq_some_iff.1 h1).1
theorem MpIs.congr {w : World} {b : Nat} {f g : κ → Option β} (h : MpIs encK encV w b f) (hg : ∀ x, f x = g x) : MpIs encK encV w b g := by
  rwa [show g = f from funext fun x => (hg x).symm]

theorem MpIs.look {w : World} {b : Nat} {f : κ → Option β} (h : MpIs encK encV w b f) {k e t : TypeId} (K : KeyAt k encK) (hV : ∀ x y, encV x = encV y → x = y) (ht : Tryz.prog.underlying t = some (.map k e)) (z : β) (hz : (zeroValue e).run Tryz.prog w = .ok (encV z) w) (x : κ) (ok : Bool) :
    (Instr.lookup t (.map (some b)) (encK x) ok).run Tryz.prog w = .ok (if ok then .tuple #[encV ((f x).getD z), .bool (f x).isSome] else encV ((f x).getD z)) w := by
  obtain ⟨es, clock, h1, h2, h3, h4⟩ := h
  have hes : ∀ e ∈ es.toList, ∃ y, e.key = encK y := fun e he => by
    obtain ⟨i, hi⟩ := List.getElem?_of_mem he
    obtain ⟨y, v, hy, _⟩ := h2 i e (by simpa using hi)
    exact ⟨y, hy⟩
  rcases K.find w x es.toList hes with ⟨g1, g2⟩ | ⟨j, e', g1, g2, g3⟩
  · have hf : f x = none := by
      cases hfx : f x with
      | none => rfl
      | some v =>
        obtain ⟨i, e1, k1, k2, _⟩ := (h4 x v).1 hfx
        exact (g2 e1 (by rw [← Array.mem_toList_iff.symm]; exact Array.mem_of_getElem? k1) k2).elim
    simp [Instr.lookup, run_underlying ht, MapKept.run_getObj_map h1, K.check, g1, hz, hf, Result.andThen]
  · have hj : es[j]? = some e' := by simpa using g2
    obtain ⟨y, v, hy, hv⟩ := h2 j e' hj
    have hf : f x = some v := (h4 x v).2 ⟨j, e', hj, g3, hv⟩
    simp [Instr.lookup, run_underlying ht, MapKept.run_getObj_map h1, K.check, g1, hf, hv, Result.andThen]

theorem MpIs.store [DecidableEq κ] {w : World} {b : Nat} {f : κ → Option β} (h : MpIs encK encV w b f) {k e t : TypeId} (K : KeyAt k encK) (hV : ∀ x y, encV x = encV y → x = y) (ht : Tryz.prog.underlying t = some (.map k e)) (x : κ) (v : β) :
    ∃ w', (Instr.mapUpdate t (.map (some b)) (encK x) (encV v)).run Tryz.prog w = .ok () w' ∧ MpIs encK encV w' b (fun y => if y = x then some v else f y) ∧ Fr (One b) w w' := by
  have hb := h.lt
  obtain ⟨es, clock, h1, h2, h3, h4⟩ := h
  have hes : ∀ e ∈ es.toList, ∃ y, e.key = encK y := fun e he => by
    obtain ⟨i, hi⟩ := List.getElem?_of_mem he
    obtain ⟨y, v, hy, _⟩ := h2 i e (by simpa using hi)
    exact ⟨y, hy⟩
  have hfr : ∀ o : Obj, Fr (One b) w { w with heap := w.heap.setIfInBounds b o } := fun o => ⟨rfl, rfl, rfl, by simp, fun i hi hn => by
    show (w.heap.setIfInBounds b o)[i]? = _
    rw [Array.getElem?_setIfInBounds]
    rw [if_neg (fun e => hn e.symm)]⟩
  rcases K.find w x es.toList hes with ⟨g1, g2⟩ | ⟨j, e', g1, g2, g3⟩
  · refine ⟨_, by simp [Instr.mapUpdate, run_underlying ht, MapKept.run_getObj_map h1, K.check, g1, MapKept.run_setObj_map _ h1, Result.andThen], ⟨es.push { key := encK x, val := encV v, born := clock }, clock + 1, (heap_set h1).1, ?_, ?_, ?_⟩, hfr _⟩
    · intro i e he
      rw [Array.getElem?_push] at he
      split at he
      · cases he; exact ⟨x, v, rfl, rfl⟩
      · exact h2 i e he
    · have hx : ∀ (i : Nat) (e1 : MapEntry), es[i]? = some e1 → e1.key ≠ encK x := fun i e1 he => g2 e1 (by rw [← Array.mem_toList_iff.symm]; exact Array.mem_of_getElem? he)
      intro i j e1 e2 he1 he2 hk
      rw [Array.getElem?_push] at he1 he2
      split at he1
      · cases he1
        split at he2
        · omega
        · exact (hx j e2 he2 hk.symm).elim
      · split at he2
        · cases he2
          exact (hx i e1 he1 hk).elim
        · exact h3 i j e1 e2 he1 he2 hk
    · intro y u
      by_cases hy : y = x
      · subst hy
        simp only [if_true, Option.some.injEq]
        constructor
        · rintro rfl
          exact ⟨es.size, { key := encK y, val := encV v, born := clock }, by simp, rfl, rfl⟩
        · rintro ⟨i, e1, he, hk, hv⟩
          rw [Array.getElem?_push] at he
          split at he
          · cases he; exact hV _ _ hv
          · exact (g2 e1 (by rw [← Array.mem_toList_iff.symm]; exact Array.mem_of_getElem? he) hk).elim
      · simp only [if_neg hy]
        rw [h4 y u]
        constructor
        · rintro ⟨i, e1, he, hk, hv⟩
          refine ⟨i, e1, ?_, hk, hv⟩
          rw [Array.getElem?_push, if_neg (by have := (Array.getElem?_eq_some_iff.1 he).1; omega)]
          exact he
        · rintro ⟨i, e1, he, hk, hv⟩
          rw [Array.getElem?_push] at he
          split at he
          · cases he; exact (hy (K.inj _ _ hk).symm).elim
          · exact ⟨i, e1, he, hk, hv⟩
  · have hj : es[j]? = some e' := by simpa using g2
    refine ⟨_, by simp [Instr.mapUpdate, run_underlying ht, MapKept.run_getObj_map h1, K.check, g1, hj, g3, K.stays, MapKept.run_setObj_map _ h1, Result.andThen], ⟨es.modify j fun e => { e with key := encK x, val := encV v }, clock, (heap_set h1).1, ?_, ?_, ?_⟩, hfr _⟩
    · intro i e he
      rw [Array.getElem?_modify] at he
      split at he
      · rename_i hji
        subst hji
        rw [hj] at he
        cases he
        exact ⟨x, v, rfl, rfl⟩
      · exact h2 i e he
    · have hkey : ∀ (i : Nat) (e1 : MapEntry), (es.modify j fun e => { e with key := encK x, val := encV v })[i]? = some e1 → ∃ e2, es[i]? = some e2 ∧ e2.key = e1.key := by
        intro i e1 he
        rw [Array.getElem?_modify] at he
        split at he
        · rename_i hji
          subst hji
          rw [hj] at he
          cases he
          exact ⟨e', hj, g3⟩
        · exact ⟨e1, he, rfl⟩
      intro i i' e1 e2 he1 he2 hk
      obtain ⟨e3, k1, k2⟩ := hkey i e1 he1
      obtain ⟨e4, k3, k4⟩ := hkey i' e2 he2
      exact h3 i i' e3 e4 k1 k3 (by rw [k2, k4, hk])
    · intro y u
      by_cases hy : y = x
      · subst hy
        simp only [if_true, Option.some.injEq]
        constructor
        · rintro rfl
          refine ⟨j, { e' with key := encK y, val := encV v }, ?_, rfl, rfl⟩
          rw [Array.getElem?_modify, if_pos rfl, hj]; rfl
        · rintro ⟨i, e1, he, hk, hv⟩
          rw [Array.getElem?_modify] at he
          split at he
          · rename_i hji
            subst hji
            rw [hj] at he
            cases he
            exact hV _ _ hv
          · rename_i hne
            exact (hne (h3 j i e' e1 hj he (by rw [g3, hk]))).elim
      · simp only [if_neg hy]
        rw [h4 y u]
        constructor
        · rintro ⟨i, e1, he, hk, hv⟩
          refine ⟨i, e1, ?_, hk, hv⟩
          rw [Array.getElem?_modify, if_neg]
          · exact he
          · rintro rfl
            rw [hj] at he
            cases he
            exact hy (K.inj _ _ (hk.symm.trans g3))
        · rintro ⟨i, e1, he, hk, hv⟩
          rw [Array.getElem?_modify] at he
          split at he
          · rename_i hji
            subst hji
            rw [hj] at he
            cases he
            exact (hy (K.inj _ _ hk).symm).elim
          · exact ⟨i, e1, he, hk, hv⟩
end

section
variable {κ β : Type} {encK : κ → Value} {encV : β → Value} {w : World} {ops : Array Oper} {rest : List Oper} {o : Oper} {a : Act} {Q : Exit → Act → World → Prop}
theorem mpLook (hg : o.guard = none) (m x : Operand) (t : TypeId) (ok : Bool) (hop : o.op = Op.lookup t m x ok)
    (k e : TypeId) (K : KeyAt k encK) (hV : ∀ x y, encV x = encV y → x = y) (ht : Tryz.prog.underlying t = some (.map k e)) (z : β) (hz : (zeroValue e).run Tryz.prog w = .ok (encV z) w) (b : Nat) (f : κ → Option β)
    (hm : a.eval m = .map (some b)) (hown : MpIs encK encV w b f) (key : κ) (hx : a.eval x = encK key)
    (hK : wpList Tryz.prog ops Q rest (a.put o.dst (if ok then .tuple #[encV ((f key).getD z), .bool (f key).isSome] else encV ((f key).getD z))) w) :
    wpList Tryz.prog ops Q (o :: rest) a w := by
  refine wpList_plain hg fun K' hK' => ?_
  have hrun := hown.look K hV ht z hz key ok
  unfold Oper.wp
  simp [execOp, hop, hm, hx, hrun, Result.andThen]
  exact hK' _ _ hK
theorem mpLookIn {F : Fence} {nF : Nat} (hg : o.guard = none) (m x : Operand) (t : TypeId) (ok : Bool) (hop : o.op = Op.lookup t m x ok)
    (k e : TypeId) (K : KeyAt k encK) (hV : ∀ x y, encV x = encV y → x = y) (ht : Tryz.prog.underlying t = some (.map k e)) (z : β) (hz : (zeroValue e).run Tryz.prog w = .ok (encV z) w) (b : Nat) (f : κ → Option β)
    (hm : a.eval m = .map (some b)) (hown : MpIs encK encV w b f) (key : κ) (hx : a.eval x = encK key)
    (hK : wpListIn F nF Tryz.prog ops Q rest (a.put o.dst (if ok then .tuple #[encV ((f key).getD z), .bool (f key).isSome] else encV ((f key).getD z))) w) :
    wpListIn F nF Tryz.prog ops Q (o :: rest) a w := by
  refine wpListIn_plain hg fun K' hK' => ?_
  have hrun := hown.look K hV ht z hz key ok
  unfold Oper.wpIn
  refine ⟨by simp [Oper.about, hop], ?_⟩
  rw [Oper.semAt_plain F _ _ (by rw [hop]; intro c hc'; cases hc')]
  simp [execOp, hop, hm, hx, hrun, Result.andThen]
  exact hK' _ _ hK
theorem mpStore [DecidableEq κ] (hg : o.guard = none) (m x v : Operand) (t : TypeId) (hop : o.op = Op.mapUpdate t m x v)
    (k e : TypeId) (K : KeyAt k encK) (hV : ∀ x y, encV x = encV y → x = y) (ht : Tryz.prog.underlying t = some (.map k e)) (b : Nat) (f : κ → Option β)
    (hm : a.eval m = .map (some b)) (hown : MpIs encK encV w b f) (key : κ) (hx : a.eval x = encK key) (val : β) (hv : a.eval v = encV val)
    (hK : ∀ w', MpIs encK encV w' b (fun y => if y = key then some val else f y) → Fr (One b) w w' → wpList Tryz.prog ops Q rest (a.put o.dst undef) w') :
    wpList Tryz.prog ops Q (o :: rest) a w := by
  refine wpList_plain hg fun K' hK' => ?_
  obtain ⟨w', hrun, r1, r2⟩ := hown.store K hV ht key val
  unfold Oper.wp
  simp [execOp, hop, hm, hx, hv, hrun, Result.andThen]
  exact hK' _ _ (hK w' r1 r2)
end
section
variable {κ β : Type} {encK : κ → Value} {encV : β → Value} {w : World} {ops : Array Oper} {rest : List Oper} {o : Oper} {a : Act} {Q : Exit → Act → World → Prop}
/-- 'm[k]'. -/
theorem mpLook1 (hg : o.guard = none) (m x : Operand) (t : TypeId) (hop : o.op = Op.lookup t m x false)
    (k e : TypeId) (K : KeyAt k encK) (hV : ∀ x y, encV x = encV y → x = y) (ht : Tryz.prog.underlying t = some (.map k e)) (z : β) (hz : (zeroValue e).run Tryz.prog w = .ok (encV z) w) (b : Nat) (f : κ → Option β)
    (hm : a.eval m = .map (some b)) (hown : MpIs encK encV w b f) (key : κ) (hx : a.eval x = encK key) (u : Value) (hu : encV ((f key).getD z) = u)
    (hK : wpList Tryz.prog ops Q rest (a.put o.dst u) w) :
    wpList Tryz.prog ops Q (o :: rest) a w := mpLook hg m x t false hop k e K hV ht z hz b f hm hown key hx (by rw [hu]; exact hK)
/-- 'v, ok := m[k]'. -/
theorem mpLook2 (hg : o.guard = none) (m x : Operand) (t : TypeId) (hop : o.op = Op.lookup t m x true)
    (k e : TypeId) (K : KeyAt k encK) (hV : ∀ x y, encV x = encV y → x = y) (ht : Tryz.prog.underlying t = some (.map k e)) (z : β) (hz : (zeroValue e).run Tryz.prog w = .ok (encV z) w) (b : Nat) (f : κ → Option β)
    (hm : a.eval m = .map (some b)) (hown : MpIs encK encV w b f) (key : κ) (hx : a.eval x = encK key) (u : Value) (hu : encV ((f key).getD z) = u) (is : Bool) (his : (f key).isSome = is)
    (hK : wpList Tryz.prog ops Q rest (a.put o.dst (.tuple #[u, .bool is])) w) :
    wpList Tryz.prog ops Q (o :: rest) a w := mpLook hg m x t true hop k e K hV ht z hz b f hm hown key hx (by rw [hu, his]; exact hK)
theorem mpLook2In {F : Fence} {nF : Nat} (hg : o.guard = none) (m x : Operand) (t : TypeId) (hop : o.op = Op.lookup t m x true)
    (k e : TypeId) (K : KeyAt k encK) (hV : ∀ x y, encV x = encV y → x = y) (ht : Tryz.prog.underlying t = some (.map k e)) (z : β) (hz : (zeroValue e).run Tryz.prog w = .ok (encV z) w) (b : Nat) (f : κ → Option β)
    (hm : a.eval m = .map (some b)) (hown : MpIs encK encV w b f) (key : κ) (hx : a.eval x = encK key) (u : Value) (hu : encV ((f key).getD z) = u) (is : Bool) (his : (f key).isSome = is)
    (hK : wpListIn F nF Tryz.prog ops Q rest (a.put o.dst (.tuple #[u, .bool is])) w) :
    wpListIn F nF Tryz.prog ops Q (o :: rest) a w := mpLookIn hg m x t true hop k e K hV ht z hz b f hm hown key hx (by rw [hu, his]; exact hK)
end
def encB (x : Bool) : Value := .bool x
theorem encB_inj : ∀ x y : Bool, encB x = encB y → x = y := fun x y h => by cases h; rfl
def encN (x : Nat) : Value := .int .u32 x
theorem encN_inj : ∀ x y : Nat, encN x = encN y → x = y := fun x y h => by simp [encN] at h; omega
def encI (x : Nat) : Value := .int .i64 x
theorem encI_inj : ∀ x y : Nat, encI x = encI y → x = y := fun x y h => by simp [encI] at h; omega
def encL (x : LId) : Value := .agg #[.int .u32 x.p, .int .i64 x.n]
theorem encL_inj : ∀ x y : LId, encL x = encL y → x = y := fun x y h => by
  cases x; cases y; simp [encL] at h; obtain ⟨h1, h2⟩ := h; simp only [LId.mk.injEq]; exact ⟨by omega, h2⟩
theorem keyN : KeyAt 43 encN := keyAt_plain Tryz.underlying43 (fun x => rfl) encN_inj
theorem zeroB (w : World) : (zeroValue 4).run Tryz.prog w = .ok (encB false) w := by kernel_rfl
end Go.Proofs.YthnfkjcndidoaaaGreatDoor
