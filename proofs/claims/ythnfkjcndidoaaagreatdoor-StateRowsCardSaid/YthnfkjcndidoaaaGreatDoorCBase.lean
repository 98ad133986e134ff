import Derived.RangeFuncNested
import Derived.RangeFuncBound
import Derived.RangeFuncCalls
import Derived.RangeFuncLeaves
import Derived.Shelf.Abstract
import Derived.WalkKit
import Derived.OwnWalkIn
import Derived.TacticsInMore
import Derived.LoopNIn
import Derived.LoopIn
import Derived.Deep.Draws
import Derived.Lib.Hide
set_option linter.unusedVariables false
set_option linter.unusedSimpArgs false
namespace Go.Proofs.YthnfkjcndidoaaaGreatDoor
open Go.RowKit Go.Shelf

/-! ### What a step may turn -/
/-- From w to w' at most the blocks of S have turned (and blocks are new). -/
structure Fr (S : Nat → Prop) (w w' : World) : Prop where
  os : w'.os = w.os
  tape : w'.tape = w.tape
  output : w'.output = w.output
  size : w.heap.size ≤ w'.heap.size
  same : ∀ i, i < w.heap.size → ¬ S i → w'.heap[i]? = w.heap[i]?
/-- Nothing. -/
def No (_ : Nat) : Prop := False
theorem Fr.refl (S : Nat → Prop) (w : World) : Fr S w w := ⟨rfl, rfl, rfl, Nat.le_refl _, fun _ _ _ => rfl⟩
theorem Fr.comp {S S' T : Nat → Prop} {a b c : World} (h : Fr S a b) (k : Fr S' b c) (h1 : ∀ i, i < a.heap.size → S i → T i) (h2 : ∀ i, i < a.heap.size → S' i → T i) : Fr T a c :=
  ⟨k.os.trans h.os, k.tape.trans h.tape, k.output.trans h.output, Nat.le_trans h.size k.size, fun i hi hn =>
    (k.same i (Nat.lt_of_lt_of_le hi h.size) (fun e => hn (h2 i hi e))).trans (h.same i hi (fun e => hn (h1 i hi e)))⟩
theorem Fr.trans {S : Nat → Prop} {a b c : World} (h : Fr S a b) (k : Fr S b c) : Fr S a c := h.comp k (fun _ _ h => h) (fun _ _ h => h)
theorem Fr.mono {S T : Nat → Prop} {a b : World} (h : Fr S a b) (h1 : ∀ i, i < a.heap.size → S i → T i) : Fr T a b := ⟨h.os, h.tape, h.output, h.size, fun i hi hn => h.same i hi (fun e => hn (h1 i hi e))⟩
theorem Fr.of_no {T : Nat → Prop} {a b : World} (h : Fr No a b) : Fr T a b := h.mono (fun _ _ e => e.elim)
/-- A step that writes nothing, behind one. -/
theorem Fr.no {S : Nat → Prop} {a b c : World} (h : Fr S a b) (k : Fr No b c) : Fr S a c := h.trans k.of_no
theorem Fr.heap {S : Nat → Prop} {a b : World} (h : Fr S a b) {i : Nat} {o : Obj} (hn : ¬ S i) (hi : a.heap[i]? = some o) : b.heap[i]? = some o := (h.same i (Array.getElem?_eq_some_iff.1 hi).1 hn).trans hi
theorem Fr.cell {S : Nat → Prop} {a b : World} (h : Fr S a b) {p : Addr} {v : Value} (hn : ¬ S p.block) (hi : a.cell? p = some v) : b.cell? p = some v :=
  (World.cell?_of_block (h.same p.block (World.block_lt_of_cell? a p hi) hn)).trans hi
theorem Fr.below {a b : World} (h : Fr No a b) : Below a.heap.size a b := ⟨h.os, h.tape, h.output, h.size, fun k hk => h.same k hk (fun e => e)⟩
theorem Fr.of_below {a b : World} (h : Below a.heap.size a b) : Fr No a b := ⟨h.os, h.tape, h.output, h.size, fun k hk _ => h.block k hk⟩
theorem Fr.of_belowB {B : Nat} {a b : World} (h : Below B a b) : Fr (fun i => B ≤ i) a b := ⟨h.os, h.tape, h.output, h.size, fun k _ hn => h.block k (by omega)⟩
theorem Fr.belowB {B : Nat} {S : Nat → Prop} {a b : World} (h : Fr S a b) (hB : B ≤ a.heap.size) (hS : ∀ i, i < B → ¬ S i) : Below B a b := ⟨h.os, h.tape, h.output, h.size, fun k hk => h.same k (by omega) (hS k hk)⟩
theorem Fr.alloc (S : Nat → Prop) (w : World) (o : Obj) : Fr S w (w.alloc o) := ⟨rfl, rfl, rfl, by simp, fun i hi _ => Below.heap_alloc w o i hi⟩
theorem Fr.drew (S : Nat → Prop) (w : World) : Fr S w w.drew := ⟨rfl, rfl, rfl, Nat.le_refl _, fun _ _ _ => rfl⟩
theorem Fr.undrew {S : Nat → Prop} {w w' : World} (h : Fr S w.drew w') : Fr S w w' := (Fr.drew S w).trans h
theorem Fr.drewN (S : Nat → Prop) (w : World) (n : Nat) : Fr S w (w.drewN n) := ⟨rfl, rfl, rfl, Nat.le_refl _, fun _ _ _ => rfl⟩
theorem Fr.setCell {S : Nat → Prop} (w : World) {p : Addr} (hp : S p.block) (v : Value) : Fr S w (w.setCell p v) :=
  ⟨rfl, rfl, rfl, by simp [World.setCell], fun i _ hn => Below.heap_setCell w p v i (fun e => hn (e ▸ hp))⟩
def One (d i : Nat) : Prop := i = d
theorem Fr.set1 (w : World) (d i : Nat) (v : Value) : Fr (One d) w (w.setCell ⟨d, i, none⟩ v) := Fr.setCell (S := One d) w (p := ⟨d, i, none⟩) rfl v
theorem Fr.putObj {S : Nat → Prop} (w : World) {r : Nat} (hr : S r) (o : Obj) : Fr S w (w.putObj r o) :=
  ⟨rfl, rfl, rfl, by simp, fun i _ hn => World.putObj_heap_other (fun e => hn (e ▸ hr))⟩
theorem Fr.grown {S : Nat → Prop} {a b : World} {row : Option Nat} (h : a.grownBy b row) (hr : ∀ k, row = some k → S k) : Fr S a b :=
  ⟨h.os, h.tape, h.output, h.size, fun i hi hn => h.block i hi (fun e => hn (hr i e.symm))⟩
theorem Fr.grownBy {S : Nat → Prop} {a b : World} {row : Option Nat} (h : Fr S a b) (hr : ∀ k, k < a.heap.size → S k → row = some k) : a.grownBy b row :=
  ⟨h.os, h.tape, h.output, h.size, fun i hi hn => h.same i hi (fun e => hn (hr i hi e).symm)⟩

/-! ### A variable in memory -/
/-- Block b holds the one value v. -/
def Box (W : World) (b : Nat) (t : TypeId) (v : Value) : Prop := W.heap[b]? = some (.cells #[v] t (0, 0))
theorem Box.cell {W : World} {b : Nat} {t : TypeId} {v : Value} (h : Box W b t v) : W.cell? ⟨b, 0, none⟩ = some v := by
  unfold Box at h
  simp [World.cell?, h]
theorem Box.frozen {W : World} {b : Nat} {t : TypeId} {v : Value} (h : Box W b t v) : W.frozen? ⟨b, 0, none⟩ = false := by
  unfold Box at h
  simp [World.frozen?, h]
theorem Box.lt {W : World} {b : Nat} {t : TypeId} {v : Value} (h : Box W b t v) : b < W.heap.size := (Array.getElem?_eq_some_iff.1 h).1
theorem Box.fr {S : Nat → Prop} {W W' : World} {b : Nat} {t : TypeId} {v : Value} (h : Box W b t v) (hf : Fr S W W') (hn : ¬ S b) : Box W' b t v := hf.heap hn h
theorem Box.new (W : World) (t : TypeId) (v : Value) : Box (W.alloc (.cells #[v] t)) W.heap.size t v := World.alloc_heap_new W _
theorem Box.old {W : World} {b : Nat} {t : TypeId} {v : Value} (h : Box W b t v) (o : Obj) : Box (W.alloc o) b t v := h.fr (Fr.alloc No W o) (fun e => e)
theorem Box.set {W : World} {b : Nat} {t : TypeId} {v : Value} (h : Box W b t v) (u : Value) : Box (W.setCell ⟨b, 0, none⟩ u) b t u := by
  unfold Box at h ⊢
  simp [World.setCell, Array.getElem?_modify, h]
theorem Box.setCell {W : World} {b : Nat} {t : TypeId} {v : Value} (h : Box W b t v) {c i : Nat} (u : Value) (hn : b ≠ c) : Box (W.setCell ⟨c, i, none⟩ u) b t v := h.fr (Fr.set1 W c i u) hn

theorem named {F : Fence} {n : Nat} {P : Program} {c : Code} {Q : Exit → Act → World → Prop} {a : Act} {W : World} (h : ∀ W', W' = W → c.wpIn F n P Q a W') : c.wpIn F n P Q a W := h W rfl
/-- The post out of the walk's sight. -/
theorem keepK {F : Fence} {n : Nat} {P : Program} {c : Code} {R : Act → World → Prop} {Q : Exit → Act → World → Prop} {a : Act} {W : World}
    (h : ∀ K : Act → World → Prop, Hid (∀ a w, R a w → K a w) → c.wpIn F n P (Exit.then K Q) a W) : c.wpIn F n P (Exit.then R Q) a W := h R (Lib.hid fun _ _ h => h)
theorem keepQ {F : Fence} {n : Nat} {P : Program} {c : Code} {R : Exit → Act → World → Prop} {a : Act} {W : World}
    (h : ∀ Q : Exit → Act → World → Prop, Hid (∀ e a w, R e a w → Q e a w) → c.wpIn F n P Q a W) : c.wpIn F n P R a W := h R (Lib.hid fun _ _ _ h => h)
theorem namedN {P : Program} {c : Code} {Q : Exit → Act → World → Prop} {a : Act} {W : World} (h : ∀ W', W' = W → c.wp P Q a W') : c.wp P Q a W := h W rfl

theorem keepQN {P : Program} {c : Code} {R : Exit → Act → World → Prop} {a : Act} {W : World}
    (h : ∀ Q : Exit → Act → World → Prop, Hid (∀ e a w, R e a w → Q e a w) → c.wp P Q a W) : c.wp P R a W := h R (Lib.hid fun _ _ _ h => h)
/-- A loop, its invariant out of the walk's sight. -/
theorem loopK {P : Program} {Q : Exit → Act → World → Prop} {a : Act} {w : World} {c : Code} (I : Act → World → Prop) (μ : Act → World → Nat) (h₀ : I a w)
    (round : ∀ a w, I a w → ∀ K : Act → World → Prop, Hid (∀ a' w', I a' w' → μ a' w' < μ a w → K a' w') → c.wp P (Exit.then K Q) a w) : (Code.loop c).wp P Q a w :=
  wp_loop I μ h₀ fun a w hI => round a w hI _ (Lib.hid fun _ _ h1 h2 => ⟨h1, h2⟩)
/-- The marks of loops over functions among a function's deferred calls. -/
def marks (Ds : List Nat) : List Deferred := Ds.map fun D => { target := .collected D, args := #[] }
theorem marks_cons (D : Nat) (Ds : List Nat) : marks (D :: Ds) = { target := .collected D, args := #[] } :: marks Ds := rfl
theorem leaves_marks {P : Program} {n : Nat} {fn : Func} {tmps : Array Value} {R : Ending → World → Prop} : ∀ (Ds : List Nat) (W : World), (∀ D, D ∈ Ds → W.heap[D]? = some (.deferred (some []))) → Ds.Nodup →
    (∀ W', Fr (fun i => i ∈ Ds) W W' → ∃ v, (results fn tmps).run P W' = .ok v W' ∧ R (.returned v) W') → LeavesInM Fence.wide n P fn tmps R (marks Ds) .returning W
  | [], W, _, _, h => h W (Fr.refl _ _)
  | D :: Ds, W, hD, hnd, h => by
    have h1 := hD D (by simp)
    refine ⟨by simp, .inl ⟨D, _, rfl, run_takeDeferred h1, ?_⟩⟩
    rw [List.nodup_cons] at hnd
    refine leaves_marks Ds _ (fun D' hD' => ?_) hnd.2 (fun W' hf => h W' ?_)
    · exact (World.putObj_heap_other (fun e : D' = D => hnd.1 (by rw [← e]; exact hD'))).trans (hD D' (List.mem_cons_of_mem _ hD'))
    · exact ((Fr.putObj (S := fun i => i ∈ D :: Ds) W (by simp) _)).trans (hf.mono (fun i _ e => List.mem_cons_of_mem _ e))
theorem post_marks {P : Program} {n : Nat} {fn : Func} {a : Act} {R : Ending → World → Prop} {Ds : List Nat} {W : World} (ha : a.defers = marks Ds) (hD : ∀ D, D ∈ Ds → W.heap[D]? = some (.deferred (some []))) (hnd : Ds.Nodup)
    (h : ∀ W', Fr (fun i => i ∈ Ds) W W' → ∃ v, (results fn a.tmps).run P W' = .ok v W' ∧ R (.returned v) W') : bodyPostM Fence.wide n P fn R .ret a W := by
  show LeavesInM _ _ _ _ _ _ a.defers _ _
  rw [ha]
  exact leaves_marks Ds W hD hnd h
theorem post_marks_end {P : Program} {n : Nat} {fn : Func} {a : Act} {R : Ending → World → Prop} {Ds : List Nat} {W : World} (ha : a.defers = marks Ds) (hD : ∀ D, D ∈ Ds → W.heap[D]? = some (.deferred (some []))) (hnd : Ds.Nodup)
    (h : ∀ W', Fr (fun i => i ∈ Ds) W W' → ∃ v, (results fn a.tmps).run P W' = .ok v W' ∧ R (.returned v) W') : bodyPostM Fence.wide n P fn R .normal a W := by
  show LeavesInM _ _ _ _ _ _ a.defers _ _
  rw [ha]
  exact leaves_marks Ds W hD hnd h
/-- A function's body that holds ranges over functions, walked as any. -/
theorem enterM {P : Program} {f : FuncId} {fn : Func} {c : Code} {args : Array Value} {w : World} {R : Ending → World → Prop} (hf : P.funcs[f]? = some fn) (hb : fn.body = some c)
    (h : c.wp P (bodyPostM Fence.wide 3 P fn R) { tmps := args ++ Array.replicate (fn.ntmps - args.size) undef, defers := [] } w) : Calls P f args w R :=
  callsIn_wide.1 (callsIn_of_wp_marks (n := 3) hf hb trivial (wpIn_wide.2 h))

/-! ### An iterator's contract; the range over it -/
/-- J minds no step that leaves its own blocks O and what lay below B alone. -/
def Stab {β : Type} (B : Nat) (J : β → (Nat → Prop) → World → Prop) : Prop := ∀ s O W W', J s O W → Fr (fun i => B ≤ i ∧ ¬ O i) W W' → J s O W'

/-- How an iterator's call ends: all has come, or a round has said 'no more'. -/
def IterEnd {α : Type} (J Jx : List α → (Nat → Prop) → World → Prop) (xs : List α) (e : Ending) (W' : World) : Prop :=
  (∃ v, e = .returned v) ∧ ∃ O', (J xs O' W' ∨ ∃ pre x rest, xs = pre ++ x :: rest ∧ Jx (pre ++ [x]) O' W')
theorem IterEnd.all {α : Type} {J Jx : List α → (Nat → Prop) → World → Prop} {xs : List α} {v : Value} {O : Nat → Prop} {W : World} (h : J xs O W) : IterEnd J Jx xs (.returned v) W := ⟨⟨v, rfl⟩, O, .inl h⟩
theorem IterEnd.part {α : Type} {J Jx : List α → (Nat → Prop) → World → Prop} {xs : List α} {v : Value} {O : Nat → Prop} {W : World} {pre rest : List α} {x : α} (hx : xs = pre ++ x :: rest) (h : Jx (pre ++ [x]) O W) : IterEnd J Jx xs (.returned v) W := ⟨⟨v, rfl⟩, O, .inr ⟨pre, x, rest, hx, h⟩⟩

/-- AN ITERATOR: the function gf (what it has captured: lb) yields just xs, whatever the rounds do to their own blocks O; src: the blocks it reads, as they are in w0. -/
def Iter {α : Type} (P : Program) (gf : Nat) (lb : Array Value) (encs : α → Array Value) (xs : List α) (src : Nat → Prop) (w0 : World) : Prop :=
  ∀ (l : Nat) (J Jx : List α → (Nat → Prop) → World → Prop) (O : Nat → Prop) (W : World),
    (∀ i, src i → i < W.heap.size ∧ W.heap[i]? = w0.heap[i]?) → (∀ i, O i → i < W.heap.size ∧ ¬ src i) → l < W.heap.size → ¬ src l →
    Stab W.heap.size J → Stab W.heap.size Jx → J [] O W →
    (∀ pre x rest O1 W1, xs = pre ++ x :: rest → J pre O1 W1 → ∀ m, YieldAt Fence.wide m P l (encs x) W1 fun e W' =>
      ∃ O', Fr (fun i => O1 i ∨ i = l) W1 W' ∧ (∀ i, O' i → i < W'.heap.size ∧ (O1 i ∨ W1.heap.size ≤ i)) ∧ ((e = .returned (.bool true) ∧ J (pre ++ [x]) O' W') ∨ (e = .returned (.bool false) ∧ Jx (pre ++ [x]) O' W'))) →
    Calls P gf (#[.func (.yield l) #[] #[]] ++ lb) W (IterEnd J Jx xs)

/-- It stands in every world in which what it reads lies as it lay. -/
theorem Iter.later {α : Type} {P : Program} {gf : Nat} {lb : Array Value} {encs : α → Array Value} {xs : List α} {src : Nat → Prop} {w0 w1 : World} (h : Iter P gf lb encs xs src w0)
    (hs : ∀ i, src i → w1.heap[i]? = w0.heap[i]?) : Iter P gf lb encs xs src w1 :=
  fun l J Jx O W h1 => h l J Jx O W (fun i hi => ⟨(h1 i hi).1, (h1 i hi).2.trans (hs i hi)⟩)

/-- How a round's body may be left. -/
def bPost {α : Type} (J : List α → (Nat → Prop) → World → Prop) (Jx : Code → List α → (Nat → Prop) → World → Prop) (s : List α) (O : Nat → Prop) (W : World) : Exit → Act → World → Prop
  | .normal, _, W' => ∃ O', Fr O W W' ∧ (∀ i, O' i → i < W'.heap.size ∧ (O i ∨ W.heap.size ≤ i)) ∧ J s O' W'
  | .ret, _, W' => ∃ O', Fr O W W' ∧ (∀ i, O' i → i < W'.heap.size ∧ (O i ∨ W.heap.size ≤ i)) ∧ Jx .ret s O' W'
  | .exit id, _, W' => ∃ O', Fr O W W' ∧ (∀ i, O' i → i < W'.heap.size ∧ (O i ∨ W.heap.size ≤ i)) ∧ Jx (.exit id) s O' W'
  | .goto t, _, W' => ∃ O', Fr O W W' ∧ (∀ i, O' i → i < W'.heap.size ∧ (O i ∨ W.heap.size ≤ i)) ∧ Jx (.goto t) s O' W'
  | .panic _, _, _ => False
  | .outgrown, _, _ => False

theorem fr_putObj_one (W : World) (l : Nat) (o : Obj) : Fr (fun i => i = l) W (W.putObj l o) := Fr.putObj (S := fun i => i = l) W rfl o
theorem fr_one {B l : Nat} {O : Nat → Prop} {a b : World} (h : Fr (fun i => i = l) a b) (hB : B ≤ l) (hO : ¬ O l) : Fr (fun i => B ≤ i ∧ ¬ O i) a b := h.mono (fun i _ e => by subst e; exact ⟨hB, hO⟩)

section
variable {P : Program} {n : Nat}

theorem yieldAt_wide {l : Nat} {args : Array Value} {W : World} {R : Ending → World → Prop} (m : Nat) (h : YieldAt Fence.wide n P l args W R) : YieldAt Fence.wide m P l args W R := by
  obtain ⟨fn, tmps, assign, body, hy, hF, hR⟩ := h
  exact ⟨fn, tmps, assign, body, hy, hF, fun c cs _ => hR c cs (room_wide _)⟩

/-- The common part of the two laws: one round. -/
theorem round_law {α : Type} {ps : Array Tmp} {assign body : Code} {a : Act} {encs : α → Array Value} {B l : Nat} {fn : FuncId} {m : Nat} {D : Nat}
    {rec : LoopState → Option Code → Loop} (hrec : rec = fun st pe => { state := st, pending := pe, fn, tmps := a.tmps, params := ps, assign, body, defers := D })
    (hps : ∀ x, (encs x).size = ps.size) (hBl : B ≤ l)
    (J : List α → (Nat → Prop) → World → Prop) (Jx : Code → List α → (Nat → Prop) → World → Prop) (hJ : Stab B J) (hJx : ∀ c, Stab B (Jx c))
    (R : World → Prop) (Z : (Nat → Prop) → Prop) (hR : ∀ (O : Nat → Prop) (W W' : World), R W → ¬ O l → Fr (fun i => O i ∨ i = l) W W' → Z O → R W') (hRl : ∀ (W W' : World), R W → Fr (fun i => i = l) W W' → R W')
    {pre : List α} {x : α} {O : Nat → Prop} {W : World} (hjp : J pre O W) (hOl : ¬ O l) (hOD : Z O) (hL : W.heap[l]? = some (.loop (rec .ready none))) (hRW : R W)
    (hround : assign.wpIn (Fence.wide.inRound l) m P (Exit.then (fun a₁ W1 => Fr No W W1 ∧ ∀ W2, Fr (fun i => i = l) W1 W2 → (∃ r, W2.heap[l]? = some (.loop r) ∧ r.defers = D) → R W2 → J pre O W2 → body.wpIn (Fence.wide.inRound l) m P (bPost J Jx (pre ++ [x]) O W2) a₁ W2) (fun _ _ _ => False))
        { tmps := (ps.zip (encs x)).foldl (fun t (p, v) => t.setIfInBounds p v) a.tmps, defers := [] } W) :
    YieldAt Fence.wide m P l (encs x) W fun e W' => ∃ O', Fr (fun i => O i ∨ i = l) W W' ∧ (∀ i, O' i → i < W'.heap.size ∧ (O i ∨ W.heap.size ≤ i)) ∧ R W' ∧
      ((e = .returned (.bool true) ∧ J (pre ++ [x]) O' W' ∧ W'.heap[l]? = some (.loop (rec .ready none))) ∨ (e = .returned (.bool false) ∧ ∃ c, Jx c (pre ++ [x]) O' W' ∧ W'.heap[l]? = some (.loop (rec .done (some c))))) := by
  have hlt : l < W.heap.size := (Array.getElem?_eq_some_iff.1 hL).1
  have hy := run_yield (P := P) (args := encs x) hL (by rw [hrec]; exact hps x)
  rw [hrec] at hy
  refine ⟨fn, _, assign, body, hy, roundIn_of_wpIn trivial ?_⟩
  refine wpIn_mono hround ?_
  rintro e a₁ W1 hp
  cases e with
  | normal =>
    obtain ⟨h1, hbody⟩ := hp
    have hL1 : W1.heap[l]? = some (.loop (rec .ready none)) := h1.heap (fun e => e) hL
    refine ⟨_, run_beginRound hL1 (by rw [hrec]), ?_⟩
    have hlt1 : l < W1.heap.size := (Array.getElem?_eq_some_iff.1 hL1).1
    have hL2 : (W1.putObj l (.loop { rec .ready none with state := .busy })).heap[l]? = some (.loop { rec .ready none with state := .busy }) := World.putObj_heap_same hlt1
    have hf2 : Fr (fun i => i = l) W1 (W1.putObj l (.loop { rec .ready none with state := .busy })) := fr_putObj_one _ _ _
    have hf02 : Fr (fun i => i = l) W (W1.putObj l (.loop { rec .ready none with state := .busy })) := (h1.of_no).trans hf2
    refine wpIn_mono (hbody _ hf2 ⟨_, hL2, by rw [hrec]⟩ (hRl _ _ hRW hf02) (hJ _ _ _ _ hjp (fr_one hf02 hBl hOl))) ?_
    have fin : ∀ (jump : Option Code) (O' : Nat → Prop) (W3 : World), Fr O (W1.putObj l (.loop { rec .ready none with state := .busy })) W3 → (∀ i, O' i → i < W3.heap.size ∧ (O i ∨ (W1.putObj l (.loop { rec .ready none with state := .busy })).heap.size ≤ i)) →
        (Instr.endRound l jump).run P W3 = .ok (.bool jump.isNone) (W3.putObj l (.loop (rec (if jump.isNone then .ready else .done) jump))) ∧
        (W3.putObj l (.loop (rec (if jump.isNone then .ready else .done) jump))).heap[l]? = some (.loop (rec (if jump.isNone then .ready else .done) jump)) ∧
        Fr (fun i => O i ∨ i = l) W (W3.putObj l (.loop (rec (if jump.isNone then .ready else .done) jump))) ∧
        (∀ i, O' i → i < (W3.putObj l (.loop (rec (if jump.isNone then .ready else .done) jump))).heap.size ∧ (O i ∨ W.heap.size ≤ i)) ∧ ¬ O' l ∧ R (W3.putObj l (.loop (rec (if jump.isNone then .ready else .done) jump))) := by
      intro jump O' W3 hk3 hO'
      have hl3 := hk3.heap hOl hL2
      have := run_endRound (P := P) jump hl3
      have h3 : Fr (fun i => O i ∨ i = l) W (W3.putObj l (.loop (rec (if jump.isNone then .ready else .done) jump))) :=
        (hf02.mono (fun i _ e => .inr e)).trans ((hk3.mono (fun i _ e => .inl e)).trans ((fr_putObj_one W3 l _).mono (fun i _ e => .inr e)))
      rw [hrec] at this
      refine ⟨by rw [hrec]; exact this, World.putObj_heap_same (Array.getElem?_eq_some_iff.1 hl3).1, h3, fun i hi => ?_, fun e => ?_, hR O _ _ hRW hOl h3 hOD⟩
      · obtain ⟨b1, b2⟩ := hO' i hi
        refine ⟨by simpa using b1, b2.imp id (fun b => Nat.le_trans hf02.size b)⟩
      · rcases (hO' l e).2 with b | b
        · exact hOl b
        · have := hf02.size
          omega
    rintro e a3 W3 hp
    cases e with
    | normal =>
      obtain ⟨O', hk3, hO', hj3⟩ := hp
      obtain ⟨hr, hl4, h4, hO4, hn4, hR4⟩ := fin none O' W3 hk3 hO'
      exact ⟨_, _, hr, O', h4, hO4, hR4, .inl ⟨rfl, hJ _ _ _ _ hj3 (fr_one (fr_putObj_one _ _ _) hBl hn4), hl4⟩⟩
    | ret =>
      obtain ⟨O', hk3, hO', hj3⟩ := hp
      obtain ⟨hr, hl4, h4, hO4, hn4, hR4⟩ := fin (some .ret) O' W3 hk3 hO'
      exact ⟨_, _, hr, O', h4, hO4, hR4, .inr ⟨rfl, .ret, hJx _ _ _ _ _ hj3 (fr_one (fr_putObj_one _ _ _) hBl hn4), hl4⟩⟩
    | exit id =>
      obtain ⟨O', hk3, hO', hj3⟩ := hp
      obtain ⟨hr, hl4, h4, hO4, hn4, hR4⟩ := fin (some (.exit id)) O' W3 hk3 hO'
      exact ⟨_, _, hr, O', h4, hO4, hR4, .inr ⟨rfl, .exit id, hJx _ _ _ _ _ hj3 (fr_one (fr_putObj_one _ _ _) hBl hn4), hl4⟩⟩
    | goto t =>
      obtain ⟨O', hk3, hO', hj3⟩ := hp
      obtain ⟨hr, hl4, h4, hO4, hn4, hR4⟩ := fin (some (.goto t)) O' W3 hk3 hO'
      exact ⟨_, _, hr, O', h4, hO4, hR4, .inr ⟨rfl, .goto t, hJx _ _ _ _ _ hj3 (fr_one (fr_putObj_one _ _ _) hBl hn4), hl4⟩⟩
    | panic ch => exact hp.elim
    | outgrown => exact hp.elim
  | exit id => exact hp.elim
  | goto t => exact hp.elim
  | ret => exact hp.elim
  | panic ch => exact hp.elim
  | outgrown => exact hp.elim

/-- 'for .. := range g { body }', not within a round. -/
theorem range_outer {α : Type} {g : Operand} {ps : Array Tmp} {assign body : Code} {Q : Exit → Act → World → Prop} {a : Act} {w : World}
    {gf : Nat} {lb : Array Value} {encs : α → Array Value} {xs : List α} {src : Nat → Prop} {w0 : World}
    (hit : Iter P gf lb encs xs src w0) (eg : Enters P gf) (hg : a.eval g = .func (.func gf) #[] lb)
    (hps : ∀ x, (encs x).size = ps.size) (hsrc : ∀ i, src i → i < w.heap.size ∧ w.heap[i]? = w0.heap[i]?)
    (J : List α → (Nat → Prop) → World → Prop) (Jx : Code → List α → (Nat → Prop) → World → Prop) (O : Nat → Prop) (hO : ∀ i, O i → i < w.heap.size ∧ ¬ src i)
    (hJ : Stab w.heap.size J) (hJx : ∀ c, Stab w.heap.size (Jx c)) (h0 : J [] O w)
    (hround : ∀ (l : Nat) (pre : List α) (x : α) (rest : List α) (O : Nat → Prop) (W : World), xs = pre ++ x :: rest → w.heap.size < l → l < W.heap.size → J pre O W → (∀ i, O i → i < W.heap.size ∧ i ≠ l) →
      assign.wpIn (Fence.wide.inRound l) n P (Exit.then (fun a₁ W1 => Fr No W W1 ∧ ∀ W2, Fr (fun i => i = l) W1 W2 → (∃ r, W2.heap[l]? = some (.loop r) ∧ r.defers = w.heap.size) → W2.heap[w.heap.size]? = some (.deferred (some [])) → J pre O W2 → body.wpIn (Fence.wide.inRound l) n P (bPost J Jx (pre ++ [x]) O W2) a₁ W2) (fun _ _ _ => False))
        { tmps := (ps.zip (encs x)).foldl (fun t (p, v) => t.setIfInBounds p v) a.tmps, defers := [] } W)
    (hdone : ∀ (O : Nat → Prop) (W : World), (∀ W', Fr (fun i => i = w.heap.size) W W' → J xs O W') → W.heap[w.heap.size]? = some (.deferred (some [])) → (∀ i, O i → i < W.heap.size ∧ i ≠ w.heap.size) → Q .normal { a with defers := { target := .collected w.heap.size, args := #[] } :: a.defers } W)
    (hstop : ∀ (c : Code) (pre : List α) (x : α) (rest : List α) (O : Nat → Prop) (W : World), xs = pre ++ x :: rest → (∀ W', Fr (fun i => i = w.heap.size) W W' → Jx c (pre ++ [x]) O W') → W.heap[w.heap.size]? = some (.deferred (some [])) → (∀ i, O i → i < W.heap.size ∧ i ≠ w.heap.size) → c.wpIn Fence.wide n P Q { a with defers := { target := .collected w.heap.size, args := #[] } :: a.defers } W) :
    (Code.rangeFunc g ps assign body).wpIn Fence.wide n P Q a w := by
  refine wpIn_rangeFunc ?_
  intro fn hfn
  obtain ⟨rec, hrec⟩ : ∃ rec : LoopState → Option Code → Loop, rec = fun st pe => { state := st, pending := pe, fn, tmps := a.tmps, params := ps, assign, body, defers := w.heap.size } := ⟨_, rfl⟩
  obtain ⟨W1, hW1⟩ : ∃ W1, (w.alloc (.deferred (some []))).alloc (.loop (rec .ready none)) = W1 := ⟨_, rfl⟩
  have hL1 : W1.heap[w.heap.size + 1]? = some (.loop (rec .ready none)) := by
    rw [← hW1]; have := World.alloc_heap_new (w.alloc (.deferred (some []))) (.loop (rec .ready none)); rwa [World.size_alloc] at this
  have hK1 : W1.heap[w.heap.size]? = some (.deferred (some [])) := by
    rw [← hW1]; exact (Below.heap_alloc _ _ _ (by simp)).trans (World.alloc_heap_new w _)
  have hs1 : W1.heap.size = w.heap.size + 1 + 1 := by rw [← hW1]; simp
  have hf1 : ∀ S, Fr S w W1 := fun S => by rw [← hW1]; exact (Fr.alloc S w _).trans (Fr.alloc S _ _)
  refine ⟨w.heap.size + 1, [{ target := .collected w.heap.size, args := #[] }], W1, { target := .fn (.func gf) lb, args := #[.func (.yield (w.heap.size + 1)) #[] #[]] }, W1, gf,
    #[.func (.yield (w.heap.size + 1)) #[] #[]] ++ lb, W1, ?_, ?_, fun _ _ => trivial, ?_, fun h => by simp [Fence.wide] at h, ?_⟩
  · rw [← hW1, hrec]; exact run_enterLoop_outer _ _ _ _ _
  · simp only [resolve, hg]
    simp [go_sem]
  · simp [invoke, go_sem, eg _ _]
  · refine callsIn_wide.2 ?_
    have hstabR : ∀ (s : LoopState) (pe : Option Code), ∀ (O : Nat → Prop) (A A' : World), Fr (fun i => W1.heap.size ≤ i ∧ ¬ O i) A A' → A.heap[w.heap.size + 1]? = some (.loop (rec s pe)) → A'.heap[w.heap.size + 1]? = some (.loop (rec s pe)) :=
      fun s pe O A A' hf hA => hf.heap (fun e => by omega) hA
    have hstabK : ∀ (O : Nat → Prop) (A A' : World), Fr (fun i => W1.heap.size ≤ i ∧ ¬ O i) A A' → A.heap[w.heap.size]? = some (.deferred (some [])) → A'.heap[w.heap.size]? = some (.deferred (some [])) :=
      fun O A A' hf hA => hf.heap (fun e => by omega) hA
    have hB : ∀ (O : Nat → Prop) (A A' : World), Fr (fun i => W1.heap.size ≤ i ∧ ¬ O i) A A' → Fr (fun i => w.heap.size ≤ i ∧ ¬ O i) A A' := fun O A A' hf => hf.mono (fun i _ e => ⟨by omega, e.2⟩)
    refine (hit (w.heap.size + 1)
      (fun pre O W => J pre O W ∧ (∀ i, O i → i < W.heap.size ∧ i ≠ w.heap.size ∧ i ≠ w.heap.size + 1) ∧ W.heap[w.heap.size + 1]? = some (.loop (rec .ready none)) ∧ W.heap[w.heap.size]? = some (.deferred (some [])))
      (fun pre O W => ∃ c, Jx c pre O W ∧ (∀ i, O i → i < W.heap.size ∧ i ≠ w.heap.size ∧ i ≠ w.heap.size + 1) ∧ W.heap[w.heap.size + 1]? = some (.loop (rec .done (some c))) ∧ W.heap[w.heap.size]? = some (.deferred (some [])))
      O W1 (fun i hi => ⟨by have := (hsrc i hi).1; omega, ((hf1 No).same i (hsrc i hi).1 (fun e => e)).trans (hsrc i hi).2⟩) (fun i hi => ⟨by have := (hO i hi).1; omega, (hO i hi).2⟩) (by omega) (fun e => by have := (hsrc _ e).1; omega)
      (fun s O A A' ⟨h1, h2, h3, h4⟩ hf => ⟨hJ _ _ _ _ h1 (hB _ _ _ hf), fun i hi => ⟨Nat.lt_of_lt_of_le (h2 i hi).1 hf.size, (h2 i hi).2⟩, hstabR _ _ _ _ _ hf h3, hstabK _ _ _ hf h4⟩)
      (fun s O A A' ⟨c, h1, h2, h3, h4⟩ hf => ⟨c, hJx c _ _ _ _ h1 (hB _ _ _ hf), fun i hi => ⟨Nat.lt_of_lt_of_le (h2 i hi).1 hf.size, (h2 i hi).2⟩, hstabR _ _ _ _ _ hf h3, hstabK _ _ _ hf h4⟩)
      ⟨hJ _ _ _ _ h0 (hf1 _), fun i hi => by have := (hO i hi).1; omega, hL1, hK1⟩ ?_).mono ?_
    · rintro pre x rest O1 W hx ⟨hj, ho, hl, hk⟩ m
      have hlW := (Array.getElem?_eq_some_iff.1 hl).1
      refine yieldAt_wide (n := n) m ?_
      obtain ⟨fn', tmps', as', bd', hy, hR⟩ := round_law (B := w.heap.size) (m := n) hrec hps (by omega) J Jx hJ hJx (fun W => W.heap[w.heap.size]? = some (.deferred (some []))) (fun O => ∀ i, O i → ¬ (i = w.heap.size))
        (fun O A A' hA hOl hf hD => hf.heap (fun e => by rcases e with e | e; exact hD _ e rfl; omega) hA) (fun A A' hA hf => hf.heap (by omega) hA) hj (fun e => (ho _ e).2.2 rfl) (fun i hi => (ho i hi).2.1) hl hk
        (hround (w.heap.size + 1) pre x rest O1 W hx (by omega) hlW hj (fun i hi => ⟨(ho i hi).1, (ho i hi).2.2⟩))
      refine ⟨fn', tmps', as', bd', hy, hR.mono ?_⟩
      rintro e W' ⟨O', hf, hO', hk', (⟨rfl, hj', hl'⟩ | ⟨rfl, c, hj', hl'⟩)⟩
      · refine ⟨O', hf, hO', .inl ⟨rfl, hj', fun i hi => ?_, hl', hk'⟩⟩
        have hi' := hO' i hi
        refine ⟨hi'.1, ?_⟩
        rcases hi'.2 with b | b
        · exact (ho i b).2
        · omega
      · refine ⟨O', hf, hO', .inr ⟨rfl, c, hj', fun i hi => ?_, hl', hk'⟩⟩
        have hi' := hO' i hi
        refine ⟨hi'.1, ?_⟩
        rcases hi'.2 with b | b
        · exact (ho i b).2
        · omega
    · rintro e W2 ⟨⟨v, rfl⟩, O', (⟨hj, ho, hl, hk⟩ | ⟨pre, x, rest, hx, c, hj, ho, hl, hk⟩)⟩
      · refine ⟨none, _, by have := run_endLoop (P := P) hl (by rw [hrec]; simp); rw [hrec] at this; exact this, hdone O' _ (fun W' hf => ?_) ((World.putObj_heap_other (by omega)).trans hk) (fun i hi => ⟨by simpa using (ho i hi).1, (ho i hi).2.1⟩)⟩
        refine hJ _ _ _ _ (hJ _ _ _ _ hj (fr_one (fr_putObj_one _ _ _) (by omega) (fun e => (ho _ e).2.2 rfl))) (fr_one hf (Nat.le_refl _) (fun e => (ho _ e).2.1 rfl))
      · refine ⟨some c, _, by have := run_endLoop (P := P) hl (by rw [hrec]; simp); rw [hrec] at this; exact this, hstop c pre x rest O' _ hx (fun W' hf => ?_) ((World.putObj_heap_other (by omega)).trans hk) (fun i hi => ⟨by simpa using (ho i hi).1, (ho i hi).2.1⟩)⟩
        refine hJx c _ _ _ _ (hJx c _ _ _ _ hj (fr_one (fr_putObj_one _ _ _) (by omega) (fun e => (ho _ e).2.2 rfl))) (fr_one hf (Nat.le_refl _) (fun e => (ho _ e).2.1 rfl))

/-- 'for .. := range g { body }' within a round of loop l₀. -/
theorem range_inner {α : Type} {g : Operand} {ps : Array Tmp} {assign body : Code} {Q : Exit → Act → World → Prop} {a : Act} {w : World} {l₀ : Nat} {r₀ : Loop}
    (hl₀ : w.heap[l₀]? = some (.loop r₀)) {gf : Nat} {lb : Array Value} {encs : α → Array Value} {xs : List α} {src : Nat → Prop} {w0 : World}
    (hit : Iter P gf lb encs xs src w0) (eg : Enters P gf) (hg : a.eval g = .func (.func gf) #[] lb)
    (hps : ∀ x, (encs x).size = ps.size) (hsrc : ∀ i, src i → i < w.heap.size ∧ w.heap[i]? = w0.heap[i]?)
    (J : List α → (Nat → Prop) → World → Prop) (Jx : Code → List α → (Nat → Prop) → World → Prop) (O : Nat → Prop) (hO : ∀ i, O i → i < w.heap.size ∧ ¬ src i)
    (hJ : Stab w.heap.size J) (hJx : ∀ c, Stab w.heap.size (Jx c)) (h0 : J [] O w)
    (hround : ∀ (l : Nat) (pre : List α) (x : α) (rest : List α) (O : Nat → Prop) (W : World), xs = pre ++ x :: rest → w.heap.size ≤ l → l < W.heap.size → J pre O W → (∀ i, O i → i < W.heap.size ∧ i ≠ l) →
      assign.wpIn (Fence.wide.inRound l) n P (Exit.then (fun a₁ W1 => Fr No W W1 ∧ ∀ W2, Fr (fun i => i = l) W1 W2 → (∃ r, W2.heap[l]? = some (.loop r) ∧ r.defers = r₀.defers) → J pre O W2 → body.wpIn (Fence.wide.inRound l) n P (bPost J Jx (pre ++ [x]) O W2) a₁ W2) (fun _ _ _ => False))
        { tmps := (ps.zip (encs x)).foldl (fun t (p, v) => t.setIfInBounds p v) a.tmps, defers := [] } W)
    (hdone : ∀ (O : Nat → Prop) (W : World), (∀ i, O i → i < W.heap.size) → J xs O W → Q .normal a W)
    (hstop : ∀ (c : Code) (pre : List α) (x : α) (rest : List α) (O : Nat → Prop) (W : World), xs = pre ++ x :: rest → (∀ i, O i → i < W.heap.size) → Jx c (pre ++ [x]) O W → c.wpIn (Fence.wide.inRound l₀) n P Q a W) :
    (Code.rangeFunc g ps assign body).wpIn (Fence.wide.inRound l₀) n P Q a w := by
  refine wpIn_rangeFunc ?_
  intro fn hfn
  obtain ⟨rec, hrec⟩ : ∃ rec : LoopState → Option Code → Loop, rec = fun st pe => { state := st, pending := pe, fn, tmps := a.tmps, params := ps, assign, body, defers := r₀.defers } := ⟨_, rfl⟩
  obtain ⟨W1, hW1⟩ : ∃ W1, w.alloc (.loop (rec .ready none)) = W1 := ⟨_, rfl⟩
  have hL1 : W1.heap[w.heap.size]? = some (.loop (rec .ready none)) := by rw [← hW1]; exact World.alloc_heap_new w _
  have hs1 : W1.heap.size = w.heap.size + 1 := by rw [← hW1]; simp
  have hf1 : ∀ S, Fr S w W1 := fun S => by rw [← hW1]; exact Fr.alloc S w _
  refine ⟨w.heap.size, [], W1, { target := .fn (.func gf) lb, args := #[.func (.yield w.heap.size) #[] #[]] }, W1, gf,
    #[.func (.yield w.heap.size) #[] #[]] ++ lb, W1, ?_, ?_, fun _ _ => trivial, ?_, fun h => by simp [Fence.wide, Fence.inRound] at h, ?_⟩
  · rw [← hW1, hrec]; exact run_enterLoop_inner hl₀ _ _ _ _ _
  · simp only [resolve, hg]
    simp [go_sem]
  · simp [invoke, go_sem, eg _ _]
  · refine CallsIn.inRound (F := Fence.wide) l₀ (callsIn_wide.2 ?_)
    have hstabR : ∀ (s : LoopState) (pe : Option Code), ∀ (O : Nat → Prop) (A A' : World), Fr (fun i => W1.heap.size ≤ i ∧ ¬ O i) A A' → A.heap[w.heap.size]? = some (.loop (rec s pe)) → A'.heap[w.heap.size]? = some (.loop (rec s pe)) :=
      fun s pe O A A' hf hA => hf.heap (fun e => by omega) hA
    have hB : ∀ (O : Nat → Prop) (A A' : World), Fr (fun i => W1.heap.size ≤ i ∧ ¬ O i) A A' → Fr (fun i => w.heap.size ≤ i ∧ ¬ O i) A A' := fun O A A' hf => hf.mono (fun i _ e => ⟨by omega, e.2⟩)
    refine (hit w.heap.size
      (fun pre O W => J pre O W ∧ (∀ i, O i → i < W.heap.size ∧ i ≠ w.heap.size) ∧ W.heap[w.heap.size]? = some (.loop (rec .ready none)))
      (fun pre O W => ∃ c, Jx c pre O W ∧ (∀ i, O i → i < W.heap.size ∧ i ≠ w.heap.size) ∧ W.heap[w.heap.size]? = some (.loop (rec .done (some c))))
      O W1 (fun i hi => ⟨by have := (hsrc i hi).1; omega, ((hf1 No).same i (hsrc i hi).1 (fun e => e)).trans (hsrc i hi).2⟩) (fun i hi => ⟨by have := (hO i hi).1; omega, (hO i hi).2⟩) (by omega) (fun e => by have := (hsrc _ e).1; omega)
      (fun s O A A' ⟨h1, h2, h3⟩ hf => ⟨hJ _ _ _ _ h1 (hB _ _ _ hf), fun i hi => ⟨Nat.lt_of_lt_of_le (h2 i hi).1 hf.size, (h2 i hi).2⟩, hstabR _ _ _ _ _ hf h3⟩)
      (fun s O A A' ⟨c, h1, h2, h3⟩ hf => ⟨c, hJx c _ _ _ _ h1 (hB _ _ _ hf), fun i hi => ⟨Nat.lt_of_lt_of_le (h2 i hi).1 hf.size, (h2 i hi).2⟩, hstabR _ _ _ _ _ hf h3⟩)
      ⟨hJ _ _ _ _ h0 (hf1 _), fun i hi => by have := (hO i hi).1; omega, hL1⟩ ?_).mono ?_
    · rintro pre x rest O1 W hx ⟨hj, ho, hl⟩ m
      have hlW := (Array.getElem?_eq_some_iff.1 hl).1
      refine yieldAt_wide (n := n) m ?_
      obtain ⟨fn', tmps', as', bd', hy, hR⟩ := round_law (B := w.heap.size) (m := n) hrec hps (Nat.le_refl _) J Jx hJ hJx (fun _ => True) (fun _ => True)
        (fun O A A' hA hOl hf hD => trivial) (fun A A' hA hf => trivial) hj (fun e => (ho _ e).2 rfl) trivial hl trivial
        (by
          refine wpIn_mono (hround w.heap.size pre x rest O1 W hx (Nat.le_refl _) hlW hj (fun i hi => ho i hi)) ?_
          intro e a₁ W3 hp
          cases e with
          | normal => exact ⟨hp.1, fun W2 h1 h2 _ h3 => hp.2 W2 h1 h2 h3⟩
          | _ => exact hp)
      refine ⟨fn', tmps', as', bd', hy, hR.mono ?_⟩
      rintro e W' ⟨O', hf, hO', _, (⟨rfl, hj', hl'⟩ | ⟨rfl, c, hj', hl'⟩)⟩
      · refine ⟨O', hf, hO', .inl ⟨rfl, hj', fun i hi => ?_, hl'⟩⟩
        have hi' := hO' i hi
        refine ⟨hi'.1, ?_⟩
        rcases hi'.2 with b | b
        · exact (ho i b).2
        · omega
      · refine ⟨O', hf, hO', .inr ⟨rfl, c, hj', fun i hi => ?_, hl'⟩⟩
        have hi' := hO' i hi
        refine ⟨hi'.1, ?_⟩
        rcases hi'.2 with b | b
        · exact (ho i b).2
        · omega
    · rintro e W2 ⟨⟨v, rfl⟩, O', (⟨hj, ho, hl⟩ | ⟨pre, x, rest, hx, c, hj, ho, hl⟩)⟩
      · exact ⟨none, _, by have := run_endLoop (P := P) hl (by rw [hrec]; simp); rw [hrec] at this; exact this, hdone O' _ (fun i hi => by simpa using (ho i hi).1) (hJ _ _ _ _ hj (fr_one (fr_putObj_one _ _ _) (Nat.le_refl _) (fun e => (ho _ e).2 rfl)))⟩
      · exact ⟨some c, _, by have := run_endLoop (P := P) hl (by rw [hrec]; simp); rw [hrec] at this; exact this, hstop c pre x rest O' _ hx (fun i hi => by simpa using (ho i hi).1) (hJx c _ _ _ _ hj (fr_one (fr_putObj_one _ _ _) (Nat.le_refl _) (fun e => (ho _ e).2 rfl)))⟩
end
end Go.Proofs.YthnfkjcndidoaaaGreatDoor
