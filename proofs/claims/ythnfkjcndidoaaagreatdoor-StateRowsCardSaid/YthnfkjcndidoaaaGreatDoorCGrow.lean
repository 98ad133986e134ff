import Derived.Test.YthnfkjcndidoaaaGreatDoorCBase
import Derived.Deep.AppendLies
import Derived.Maps.AppendAt
import Derived.WalkSmall
set_option linter.unusedVariables false
set_option linter.unusedSimpArgs false
namespace Go.Proofs.YthnfkjcndidoaaaGreatDoor
open Go.RowKit Go.Shelf

/-- The block of a slice of one's own. -/
def OwnO (v : Value) (i : Nat) : Prop := v.ownBlock = some i
theorem ownO_nil (i : Nat) : ¬ OwnO (.slice none 0 0) i := by simp [OwnO, Value.ownBlock]
theorem ownO_slice {g n c i : Nat} : OwnO (.slice (some ⟨g, 0, none⟩) n c) i ↔ g = i := by simp [OwnO, Value.ownBlock]
theorem own_fr {S : Nat → Prop} {w w' : World} {base : Nat} {e : TypeId} {size : Nat} {v : Value} {n : Nat} {xs : List Value} (h : w.ownsRow base e size v n xs) (hf : Fr S w w') (hn : ∀ i, OwnO v i → ¬ S i) : w'.ownsRow base e size v n xs := by
  obtain ⟨h1, h2⟩ := h
  refine ⟨h1, ?_⟩
  rcases h2 with h2 | ⟨g, cap, cur, rfl, hg, hh, r⟩
  · exact .inl h2
  · exact .inr ⟨g, cap, cur, rfl, hg, hf.heap (hn g (ownO_slice.2 rfl)) hh, r⟩
theorem own_block {w : World} {base : Nat} {e : TypeId} {size : Nat} {v : Value} {n : Nat} {xs : List Value} (h : w.ownsRow base e size v n xs) {i : Nat} (hi : OwnO v i) : base ≤ i ∧ i < w.heap.size ∧ ∃ cur, w.heap[i]? = some (.cells cur e (0, 0)) := by
  rcases h.2 with ⟨rfl, _⟩ | ⟨g, cap, cur, rfl, hg, hh, r⟩
  · exact (ownO_nil i hi).elim
  · rw [ownO_slice] at hi
    subst hi
    exact ⟨hg, (Array.getElem?_eq_some_iff.1 hh).1, cur, hh⟩
/-- A box of another type is not the row. -/
theorem own_ne_box {w : World} {base : Nat} {e : TypeId} {size : Nat} {v : Value} {n : Nat} {xs : List Value} (h : w.ownsRow base e size v n xs) {b : Nat} {t : TypeId} {u : Value} (hb : Box w b t u) (ht : t ≠ e) : ¬ OwnO v b := by
  intro hi
  obtain ⟨_, _, cur, hc⟩ := own_block h hi
  have := (show w.heap[b]? = _ from hb).symm.trans hc
  simp at this
  exact ht this.2
theorem own_none (w : World) (base : Nat) (e : TypeId) (size : Nat) : w.ownsRow base e size (.slice none 0 0) 0 [] := ⟨by simp, .inl ⟨rfl, rfl⟩⟩
theorem own_lower {w : World} {base base' : Nat} {e : TypeId} {size : Nat} {v : Value} {n : Nat} {xs : List Value} (h : w.ownsRow base e size v n xs) (hb : base' ≤ base) : w.ownsRow base' e size v n xs := by
  refine ⟨h.1, ?_⟩
  rcases h.2 with h2 | ⟨g, cap, cur, rfl, hg, r⟩
  · exact .inl h2
  · exact .inr ⟨g, cap, cur, rfl, by omega, r⟩

/-- The walk stands still here. -/
theorem stopAt {p : Prop} (h : Hid p) : p := h
theorem Hid.go {p : Prop} (h : p) : Hid p := h
section
variable {P : Program} {w : World}
theorem grow_fr {v : Value} {w' : World} (h : w.grownBy w' v.ownBlock) : Fr (OwnO v) w w' := Fr.grown h (fun k e => e)

/-- An append to a row of one's own, inside a fence; the row's place is told. -/
theorem growIn {F : Fence} {n : Nat} {ops : Array Oper} {rest : List Oper} {o : Oper} {a : Act} {Q : Exit → Act → World → Prop} (hgd : o.guard = none) (s x : Operand) (t : TypeId)
    (ho : o.op = .call { callee := .builtin .append, args := #[s, x], argTypes := #[t, t] })
    (base : Nat) (e : TypeId) (i : TypeInfo) (z : Value) (size bytes : Nat) (ht : P.underlying t = some (.slice e)) (hi : P.info? e = some i) (hz : i.zero = some z)
    (hsize : i.size = size) (hby : i.bytes = bytes) (hzs : z.cells.size = size) (hsz : 0 < size)
    (v : Value) (k : Nat) (xs : List Value) (hs : a.eval s = v) (hown : w.ownsRow base e size v k xs)
    (ad : Addr) (m c : Nat) (news : List Value) (hx : a.eval x = .slice (some ad) m c) (hl : news.length = m * size) (hnews : ∀ j u, news[j]? = some u → w.cell? (ad.add j) = some u) (h1 : ∀ u ∈ news, u.oneCell' = true)
    (hm : 0 < m) (h63 : k + m ≤ maxLen) (hbytes : (k + m) * bytes ≤ 140737488355328) (hbase : base ≤ w.heap.size)
    (h : ∀ g cap w', w'.ownsRow base e size (.slice (some ⟨g, 0, none⟩) (k + m) cap) (k + m) (xs ++ news) → Fr (OwnO v) w w' → (OwnO v g ∨ w.heap.size ≤ g) → g < w'.heap.size → wpListIn F n P ops Q rest (a.put o.dst (.slice (some ⟨g, 0, none⟩) (k + m) cap)) w') : wpListIn F n P ops Q (o :: rest) a w := by
  refine wpListIn_plain hgd fun K hK' => ?_
  obtain ⟨g, cap, w', hrun, r1, r2, r3, r4⟩ := run_append_lies (P := P) w t o.type base e i z size bytes ht hi hz hsize hby hzs hsz v k xs hown ad m c news hl hnews h1 hm h63 hbytes hbase w.heap.size rfl
  unfold Oper.wpIn
  refine ⟨?_, ?_⟩
  · simp [Oper.about, ho, resolve, Target.leads, Sem.run_pure]
  · rw [Oper.semAt_plain F _ _ (by rw [ho]; intro c hc'; cases hc')]
    simp [execOp, ho, resolve, invoke, builtin, hs, hx, hrun, Result.andThen]
    exact hK' _ _ (h g cap w' r1 (grow_fr r2) (r3.imp id (fun e => Nat.le_of_eq e.symm)) r4)
/-- As anywhere. -/
theorem growN {ops : Array Oper} {rest : List Oper} {o : Oper} {a : Act} {Q : Exit → Act → World → Prop} (hgd : o.guard = none) (s x : Operand) (t : TypeId)
    (ho : o.op = .call { callee := .builtin .append, args := #[s, x], argTypes := #[t, t] })
    (base : Nat) (e : TypeId) (i : TypeInfo) (z : Value) (size bytes : Nat) (ht : P.underlying t = some (.slice e)) (hi : P.info? e = some i) (hz : i.zero = some z)
    (hsize : i.size = size) (hby : i.bytes = bytes) (hzs : z.cells.size = size) (hsz : 0 < size)
    (v : Value) (k : Nat) (xs : List Value) (hs : a.eval s = v) (hown : w.ownsRow base e size v k xs)
    (ad : Addr) (m c : Nat) (news : List Value) (hx : a.eval x = .slice (some ad) m c) (hl : news.length = m * size) (hnews : ∀ j u, news[j]? = some u → w.cell? (ad.add j) = some u) (h1 : ∀ u ∈ news, u.oneCell' = true)
    (hm : 0 < m) (h63 : k + m ≤ maxLen) (hbytes : (k + m) * bytes ≤ 140737488355328) (hbase : base ≤ w.heap.size)
    (h : ∀ g cap w', w'.ownsRow base e size (.slice (some ⟨g, 0, none⟩) (k + m) cap) (k + m) (xs ++ news) → Fr (OwnO v) w w' → (OwnO v g ∨ w.heap.size ≤ g) → g < w'.heap.size → wpList P ops Q rest (a.put o.dst (.slice (some ⟨g, 0, none⟩) (k + m) cap)) w') : wpList P ops Q (o :: rest) a w :=
  wpList_append_lies w hgd s x t ho base e i z size bytes ht hi hz hsize hby hzs hsz v k xs hs hown ad m c news hx hl hnews h1 hm h63 hbytes hbase w.heap.size rfl
    fun g cap w' r1 r2 r3 r4 => h g cap w' r1 (grow_fr r2) (r3.imp id (fun e => Nat.le_of_eq e.symm)) r4
/-- The cells of a block just made. -/
theorem new_cells (w : World) (cs : List Value) (t : TypeId) : ∀ j u, cs[j]? = some u → (w.alloc (.cells cs.toArray t)).cell? ((⟨w.heap.size, 0, none⟩ : Addr).add j) = some u := by
  intro j u h
  have := World.news_of_block (World.alloc_heap_new w (.cells cs.toArray t)) j u
  simpa using this (by simpa using h)
end
end Go.Proofs.YthnfkjcndidoaaaGreatDoor
