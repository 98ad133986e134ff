import Derived.Test.YthnfkjcndidoaaaGreatDoorCGrow
set_option linter.unusedVariables false
set_option linter.unusedSimpArgs false
namespace Go.Proofs.YthnfkjcndidoaaaGreatDoor
open Go.RowKit Go.Shelf

/-! ### How data lie in memory (what is only read) -/
/-- What W's cells hold, W''s do. -/
def CM (W W' : World) : Prop := ∀ (b o : Nat) (v : Value), W.cell? ⟨b, o, none⟩ = some v → W'.cell? ⟨b, o, none⟩ = some v
theorem CM.refl (W : World) : CM W W := fun _ _ _ h => h
theorem CM.trans {A B C : World} (h : CM A B) (k : CM B C) : CM A C := fun b o v e => k b o v (h b o v e)
theorem Fr.cm {W W' : World} (h : Fr No W W') : CM W W' := fun b o v e => h.cell (p := ⟨b, o, none⟩) (fun e => e) e

structure Rp (α : Type) where
  sz : Nat
  K : World → α → List Value → Prop
  len : ∀ {W x cs}, K W x cs → cs.length = sz
  keep : ∀ {W W' x cs}, CM W W' → K W x cs → K W' x cs

/-- A slice that reads as a list. -/
def SlIs {α : Type} (d : Rp α) (W : World) (v : Value) (xs : List α) : Prop :=
  ∃ A c, v = .slice A xs.length c ∧ xs.length ≤ c ∧ xs.length ≤ 9223372036854775807 ∧
    (xs ≠ [] → ∃ b o, A = some ⟨b, o, none⟩ ∧ ∀ j x, xs[j]? = some x → ∃ cs, d.K W x cs ∧ ∀ i u, cs[i]? = some u → W.cell? ⟨b, o + j * d.sz + i, none⟩ = some u)
theorem SlIs.keep {α : Type} {d : Rp α} {W W' : World} {v : Value} {xs : List α} (h : SlIs d W v xs) (hc : CM W W') : SlIs d W' v xs := by
  obtain ⟨A, c, rfl, h1, h2, h3⟩ := h
  refine ⟨A, c, rfl, h1, h2, fun hne => ?_⟩
  obtain ⟨b, o, rfl, h4⟩ := h3 hne
  refine ⟨b, o, rfl, fun j x hj => ?_⟩
  obtain ⟨cs, h5, h6⟩ := h4 j x hj
  exact ⟨cs, d.keep hc h5, fun i u hi => hc _ _ _ (h6 i u hi)⟩
theorem SlIs.fr {α : Type} {d : Rp α} {W W' : World} {v : Value} {xs : List α} (h : SlIs d W v xs) (hf : Fr No W W') : SlIs d W' v xs := h.keep hf.cm
theorem SlIs.form {α : Type} {d : Rp α} {W : World} {v : Value} {xs : List α} (h : SlIs d W v xs) : ∃ A c, v = .slice A xs.length c ∧ xs.length ≤ c ∧ xs.length ≤ 9223372036854775807 := by
  obtain ⟨A, c, e, h1, h2, _⟩ := h
  exact ⟨A, c, e, h1, h2⟩
/-- An element, its cells. -/
theorem SlIs.at {α : Type} {d : Rp α} {W : World} {A : Option Addr} {n c : Nat} {xs : List α} (h : SlIs d W (.slice A n c) xs) (j : Nat) (hj : j < xs.length) :
    ∃ b o x cs, A = some ⟨b, o, none⟩ ∧ xs[j]? = some x ∧ d.K W x cs ∧ ∀ i u, cs[i]? = some u → W.cell? ⟨b, o + j * d.sz + i, none⟩ = some u := by
  obtain ⟨A', c', e, h1, h2, h3⟩ := h
  cases e
  obtain ⟨b, o, rfl, h4⟩ := h3 (by rintro rfl; simp at hj)
  obtain ⟨cs, h5, h6⟩ := h4 j xs[j] (List.getElem?_eq_getElem hj)
  exact ⟨b, o, xs[j], cs, rfl, List.getElem?_eq_getElem hj, h5, h6⟩
theorem slNil {α : Type} (d : Rp α) (W : World) : SlIs d W (.slice none 0 0) [] := ⟨none, 0, rfl, Nat.le_refl _, by simp, fun h => (h rfl).elim⟩

def Rp.one {α : Type} (enc : α → Value) : Rp α where
  sz := 1
  K := fun _ x cs => cs = [enc x]
  len := fun h => by rw [h]; rfl
  keep := fun _ h => h
def rU32 : Rp Nat := Rp.one fun x => .int .u32 x
def rInt : Rp Int := Rp.one fun x => .int .i64 x
def rStr : Rp ByteArray := Rp.one Value.string
def Rp.sl {α : Type} (d : Rp α) : Rp (List α) where
  sz := 1
  K := fun W xs cs => ∃ v, cs = [v] ∧ SlIs d W v xs
  len := fun ⟨_, h, _⟩ => by rw [h]; rfl
  keep := fun hc ⟨v, h, k⟩ => ⟨v, h, k.keep hc⟩

/-- A line's ID. -/
structure LId where
  p : Nat
  n : Int
  deriving DecidableEq
structure Edg where
  a : LId
  b : LId
  deriving DecidableEq
structure Hk where
  path : ByteArray
  adds : List ByteArray
  edges : List Edg
  kills : List LId
structure Pt where
  id : Nat
  deps : List Nat
  makes : List ByteArray
  drops : List ByteArray
  hunks : List Hk
structure Ln where
  id : LId
  text : ByteArray
  dead : Bool
structure Pr where
  a : Int
  b : Int
  deriving DecidableEq
structure Fl where
  path : ByteArray
  lines : List Ln
  pairs : List Pr
def lidV (x : LId) : List Value := [.int .u32 x.p, .int .i64 x.n]
def rLId : Rp LId where
  sz := 2
  K := fun _ x cs => cs = [.int .u32 x.p, .int .i64 x.n]
  len := fun h => by rw [h]; rfl
  keep := fun _ h => h
def rEdg : Rp Edg where
  sz := 4
  K := fun _ x cs => cs = [.int .u32 x.a.p, .int .i64 x.a.n, .int .u32 x.b.p, .int .i64 x.b.n]
  len := fun h => by rw [h]; rfl
  keep := fun _ h => h
def rHk : Rp Hk where
  sz := 4
  K := fun W x cs => ∃ va ve vk, cs = [.string x.path, va, ve, vk] ∧ SlIs rStr W va x.adds ∧ SlIs rEdg W ve x.edges ∧ SlIs rLId W vk x.kills
  len := fun ⟨_, _, _, h, _⟩ => by rw [h]; rfl
  keep := fun hc ⟨va, ve, vk, h, h1, h2, h3⟩ => ⟨va, ve, vk, h, h1.keep hc, h2.keep hc, h3.keep hc⟩
def rPt : Rp Pt where
  sz := 5
  K := fun W x cs => ∃ vd vm vr vh, cs = [.int .u32 x.id, vd, vm, vr, vh] ∧ SlIs rU32 W vd x.deps ∧ SlIs rStr W vm x.makes ∧ SlIs rStr W vr x.drops ∧ SlIs rHk W vh x.hunks
  len := fun ⟨_, _, _, _, h, _⟩ => by rw [h]; rfl
  keep := fun hc ⟨vd, vm, vr, vh, h, h1, h2, h3, h4⟩ => ⟨vd, vm, vr, vh, h, h1.keep hc, h2.keep hc, h3.keep hc, h4.keep hc⟩
def rLn : Rp Ln where
  sz := 4
  K := fun _ x cs => cs = [.int .u32 x.id.p, .int .i64 x.id.n, .string x.text, .bool x.dead]
  len := fun h => by rw [h]; rfl
  keep := fun _ h => h
def rPr : Rp Pr where
  sz := 2
  K := fun _ x cs => cs = [.int .i64 x.a, .int .i64 x.b]
  len := fun h => by rw [h]; rfl
  keep := fun _ h => h
def rFl : Rp Fl where
  sz := 3
  K := fun W x cs => ∃ vl vp, cs = [.string x.path, vl, vp] ∧ SlIs rLn W vl x.lines ∧ SlIs rPr W vp x.pairs
  len := fun ⟨_, _, h, _⟩ => by rw [h]; rfl
  keep := fun hc ⟨vl, vp, h, h1, h2⟩ => ⟨vl, vp, h, h1.keep hc, h2.keep hc⟩

section
variable {W : World} {A : Option Addr} {n c : Nat}
theorem at_str {xs : List ByteArray} (h : SlIs rStr W (.slice A n c) xs) (j : Nat) (hj : j < xs.length) : ∃ b o x, A = some ⟨b, o, none⟩ ∧ xs[j]? = some x ∧ W.cell? ⟨b, o + j, none⟩ = some (.string x) := by
  obtain ⟨b, o, x, cs, e, hx, hk, hc⟩ := h.at j hj
  obtain rfl : cs = [.string x] := hk
  exact ⟨b, o, x, e, hx, by simpa [rStr, Rp.one] using hc 0 _ rfl⟩
theorem at_u32 {xs : List Nat} (h : SlIs rU32 W (.slice A n c) xs) (j : Nat) (hj : j < xs.length) : ∃ b o x, A = some ⟨b, o, none⟩ ∧ xs[j]? = some x ∧ W.cell? ⟨b, o + j, none⟩ = some (.int .u32 x) := by
  obtain ⟨b, o, x, cs, e, hx, hk, hc⟩ := h.at j hj
  obtain rfl : cs = [.int .u32 x] := hk
  exact ⟨b, o, x, e, hx, by simpa [rU32, Rp.one] using hc 0 _ rfl⟩
theorem at_int {xs : List Int} (h : SlIs rInt W (.slice A n c) xs) (j : Nat) (hj : j < xs.length) : ∃ b o x, A = some ⟨b, o, none⟩ ∧ xs[j]? = some x ∧ W.cell? ⟨b, o + j, none⟩ = some (.int .i64 x) := by
  obtain ⟨b, o, x, cs, e, hx, hk, hc⟩ := h.at j hj
  obtain rfl : cs = [.int .i64 x] := hk
  exact ⟨b, o, x, e, hx, by simpa [rInt, Rp.one] using hc 0 _ rfl⟩
theorem at_lid {xs : List LId} (h : SlIs rLId W (.slice A n c) xs) (j : Nat) (hj : j < xs.length) : ∃ b o x, A = some ⟨b, o, none⟩ ∧ xs[j]? = some x ∧ W.cell? ⟨b, o + j * 2, none⟩ = some (.int .u32 x.p) ∧ W.cell? ⟨b, o + j * 2 + 1, none⟩ = some (.int .i64 x.n) := by
  obtain ⟨b, o, x, cs, e, hx, hk, hc⟩ := h.at j hj
  obtain rfl : cs = [.int .u32 x.p, .int .i64 x.n] := hk
  exact ⟨b, o, x, e, hx, hc 0 _ rfl, hc 1 _ rfl⟩
theorem at_pr {xs : List Pr} (h : SlIs rPr W (.slice A n c) xs) (j : Nat) (hj : j < xs.length) : ∃ b o x, A = some ⟨b, o, none⟩ ∧ xs[j]? = some x ∧ W.cell? ⟨b, o + j * 2, none⟩ = some (.int .i64 x.a) ∧ W.cell? ⟨b, o + j * 2 + 1, none⟩ = some (.int .i64 x.b) := by
  obtain ⟨b, o, x, cs, e, hx, hk, hc⟩ := h.at j hj
  obtain rfl : cs = [.int .i64 x.a, .int .i64 x.b] := hk
  exact ⟨b, o, x, e, hx, hc 0 _ rfl, hc 1 _ rfl⟩
theorem at_edg {xs : List Edg} (h : SlIs rEdg W (.slice A n c) xs) (j : Nat) (hj : j < xs.length) : ∃ b o x, A = some ⟨b, o, none⟩ ∧ xs[j]? = some x ∧
    W.cell? ⟨b, o + j * 4, none⟩ = some (.int .u32 x.a.p) ∧ W.cell? ⟨b, o + j * 4 + 1, none⟩ = some (.int .i64 x.a.n) ∧ W.cell? ⟨b, o + j * 4 + 2, none⟩ = some (.int .u32 x.b.p) ∧ W.cell? ⟨b, o + j * 4 + 3, none⟩ = some (.int .i64 x.b.n) := by
  obtain ⟨b, o, x, cs, e, hx, hk, hc⟩ := h.at j hj
  obtain rfl : cs = [.int .u32 x.a.p, .int .i64 x.a.n, .int .u32 x.b.p, .int .i64 x.b.n] := hk
  exact ⟨b, o, x, e, hx, hc 0 _ rfl, hc 1 _ rfl, hc 2 _ rfl, hc 3 _ rfl⟩
theorem at_ln {xs : List Ln} (h : SlIs rLn W (.slice A n c) xs) (j : Nat) (hj : j < xs.length) : ∃ b o x, A = some ⟨b, o, none⟩ ∧ xs[j]? = some x ∧
    W.cell? ⟨b, o + j * 4, none⟩ = some (.int .u32 x.id.p) ∧ W.cell? ⟨b, o + j * 4 + 1, none⟩ = some (.int .i64 x.id.n) ∧ W.cell? ⟨b, o + j * 4 + 2, none⟩ = some (.string x.text) ∧ W.cell? ⟨b, o + j * 4 + 3, none⟩ = some (.bool x.dead) := by
  obtain ⟨b, o, x, cs, e, hx, hk, hc⟩ := h.at j hj
  obtain rfl : cs = [.int .u32 x.id.p, .int .i64 x.id.n, .string x.text, .bool x.dead] := hk
  exact ⟨b, o, x, e, hx, hc 0 _ rfl, hc 1 _ rfl, hc 2 _ rfl, hc 3 _ rfl⟩
theorem at_hk {xs : List Hk} (h : SlIs rHk W (.slice A n c) xs) (j : Nat) (hj : j < xs.length) : ∃ b o x Aa ca Ae ce Ak ck, A = some ⟨b, o, none⟩ ∧ xs[j]? = some x ∧
    W.cell? ⟨b, o + j * 4, none⟩ = some (.string x.path) ∧ W.cell? ⟨b, o + j * 4 + 1, none⟩ = some (.slice Aa x.adds.length ca) ∧ W.cell? ⟨b, o + j * 4 + 2, none⟩ = some (.slice Ae x.edges.length ce) ∧ W.cell? ⟨b, o + j * 4 + 3, none⟩ = some (.slice Ak x.kills.length ck) ∧
    SlIs rStr W (.slice Aa x.adds.length ca) x.adds ∧ SlIs rEdg W (.slice Ae x.edges.length ce) x.edges ∧ SlIs rLId W (.slice Ak x.kills.length ck) x.kills := by
  obtain ⟨b, o, x, cs, e, hx, ⟨va, ve, vk, rfl, h1, h2, h3⟩, hc⟩ := h.at j hj
  obtain ⟨Aa, ca, rfl, _⟩ := h1.form
  obtain ⟨Ae, ce, rfl, _⟩ := h2.form
  obtain ⟨Ak, ck, rfl, _⟩ := h3.form
  exact ⟨b, o, x, Aa, ca, Ae, ce, Ak, ck, e, hx, hc 0 _ rfl, hc 1 _ rfl, hc 2 _ rfl, hc 3 _ rfl, h1, h2, h3⟩
theorem at_fl {xs : List Fl} (h : SlIs rFl W (.slice A n c) xs) (j : Nat) (hj : j < xs.length) : ∃ b o x Al cl Ap cp, A = some ⟨b, o, none⟩ ∧ xs[j]? = some x ∧
    W.cell? ⟨b, o + j * 3, none⟩ = some (.string x.path) ∧ W.cell? ⟨b, o + j * 3 + 1, none⟩ = some (.slice Al x.lines.length cl) ∧ W.cell? ⟨b, o + j * 3 + 2, none⟩ = some (.slice Ap x.pairs.length cp) ∧
    SlIs rLn W (.slice Al x.lines.length cl) x.lines ∧ SlIs rPr W (.slice Ap x.pairs.length cp) x.pairs := by
  obtain ⟨b, o, x, cs, e, hx, ⟨vl, vp, rfl, h1, h2⟩, hc⟩ := h.at j hj
  obtain ⟨Al, cl, rfl, _⟩ := h1.form
  obtain ⟨Ap, cp, rfl, _⟩ := h2.form
  exact ⟨b, o, x, Al, cl, Ap, cp, e, hx, hc 0 _ rfl, hc 1 _ rfl, hc 2 _ rfl, h1, h2⟩
/-- A patch by value: its fields. -/
structure PtV (W : World) (x : Pt) (Ad : Option Addr) (cd : Nat) (Am : Option Addr) (cm : Nat) (Ar : Option Addr) (cr : Nat) (Ah : Option Addr) (ch : Nat) : Prop where
  deps : SlIs rU32 W (.slice Ad x.deps.length cd) x.deps
  makes : SlIs rStr W (.slice Am x.makes.length cm) x.makes
  drops : SlIs rStr W (.slice Ar x.drops.length cr) x.drops
  hunks : SlIs rHk W (.slice Ah x.hunks.length ch) x.hunks
theorem at_pt {xs : List Pt} (h : SlIs rPt W (.slice A n c) xs) (j : Nat) (hj : j < xs.length) : ∃ b o x Ad cd Am cm Ar cr Ah ch, A = some ⟨b, o, none⟩ ∧ xs[j]? = some x ∧
    W.cell? ⟨b, o + j * 5, none⟩ = some (.int .u32 x.id) ∧ W.cell? ⟨b, o + j * 5 + 1, none⟩ = some (.slice Ad x.deps.length cd) ∧ W.cell? ⟨b, o + j * 5 + 2, none⟩ = some (.slice Am x.makes.length cm) ∧ W.cell? ⟨b, o + j * 5 + 3, none⟩ = some (.slice Ar x.drops.length cr) ∧ W.cell? ⟨b, o + j * 5 + 4, none⟩ = some (.slice Ah x.hunks.length ch) ∧
    PtV W x Ad cd Am cm Ar cr Ah ch := by
  obtain ⟨b, o, x, cs, e, hx, ⟨vd, vm, vr, vh, rfl, h1, h2, h3, h4⟩, hc⟩ := h.at j hj
  obtain ⟨Ad, cd, rfl, _⟩ := h1.form
  obtain ⟨Am, cm, rfl, _⟩ := h2.form
  obtain ⟨Ar, cr, rfl, _⟩ := h3.form
  obtain ⟨Ah, ch, rfl, _⟩ := h4.form
  exact ⟨b, o, x, Ad, cd, Am, cm, Ar, cr, Ah, ch, e, hx, hc 0 _ rfl, hc 1 _ rfl, hc 2 _ rfl, hc 3 _ rfl, hc 4 _ rfl, h1, h2, h3, h4⟩
theorem PtV.fr {W' : World} {x : Pt} {Ad : Option Addr} {cd : Nat} {Am : Option Addr} {cm : Nat} {Ar : Option Addr} {cr : Nat} {Ah : Option Addr} {ch : Nat} (h : PtV W x Ad cd Am cm Ar cr Ah ch) (hf : Fr No W W') : PtV W' x Ad cd Am cm Ar cr Ah ch :=
  ⟨h.deps.fr hf, h.makes.fr hf, h.drops.fr hf, h.hunks.fr hf⟩
end
end Go.Proofs.YthnfkjcndidoaaaGreatDoor
