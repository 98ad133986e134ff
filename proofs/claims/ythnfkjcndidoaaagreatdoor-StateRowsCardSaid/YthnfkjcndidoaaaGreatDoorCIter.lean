import Derived.Test.YthnfkjcndidoaaaGreatDoorCPaths
set_option linter.unusedVariables false
set_option linter.unusedSimpArgs false
namespace Go.Proofs.YthnfkjcndidoaaaGreatDoor
open Go.RowKit Go.Shelf

/-! ### state.added, state.hunks: what is gone through -/
def addsOf (id n : Nat) : List ByteArray → List Ln
  | [] => []
  | s :: r => ⟨⟨id, (n : Int)⟩, s, false⟩ :: addsOf id (n + 1) r
theorem addsOf_app (id : Nat) : ∀ (n : Nat) (a b : List ByteArray), addsOf id n (a ++ b) = addsOf id n a ++ addsOf id (n + a.length) b
  | n, [], b => by simp [addsOf]
  | n, s :: r, b => by
    simp only [List.cons_append, addsOf, addsOf_app id (n + 1) r b, List.length_cons]
    rw [show n + (r.length + 1) = n + 1 + r.length by omega]
def lenSum (hs : List Hk) : Nat := (hs.map fun h => h.adds.length).sum
def hkAdds (path : ByteArray) (id n : Nat) (h : Hk) : List Ln := if h.path = path then addsOf id n h.adds else []
def ptAdds (path : ByteArray) (id : Nat) : Nat → List Hk → List Ln
  | _, [] => []
  | n, h :: r => hkAdds path id n h ++ ptAdds path id (n + h.adds.length) r
theorem ptAdds_app (path : ByteArray) (id : Nat) : ∀ (n : Nat) (a b : List Hk), ptAdds path id n (a ++ b) = ptAdds path id n a ++ ptAdds path id (n + lenSum a) b
  | n, [], b => by simp [ptAdds, lenSum]
  | n, h :: r, b => by
    simp only [List.cons_append, ptAdds, ptAdds_app path id _ r b, List.append_assoc]
    rw [show lenSum (h :: r) = h.adds.length + lenSum r from rfl, Nat.add_assoc]
def addedL (l : List Pt) (path : ByteArray) : List Ln := l.flatMap fun p => ptAdds path p.id 0 p.hunks
theorem split_at {α : Type} {l : List α} {k : Nat} {x : α} (hx : l[k]? = some x) : l = l.take k ++ x :: l.drop (k + 1) := by
  obtain ⟨hk, rfl⟩ := List.getElem?_eq_some_iff.1 hx
  rw [List.getElem_cons_drop, List.take_append_drop]
theorem take_snoc {α : Type} {l : List α} {k : Nat} {x : α} (hx : l[k]? = some x) : l.take (k + 1) = l.take k ++ [x] := by
  rw [List.take_add_one, hx]; rfl
theorem lenSum_snoc {hs : List Hk} {j : Nat} {y : Hk} (hy : hs[j]? = some y) : lenSum (hs.take (j + 1)) = lenSum (hs.take j) + y.adds.length := by
  rw [take_snoc hy]; simp [lenSum]
theorem lenSum_le {hs : List Hk} {j : Nat} {y : Hk} (hy : hs[j]? = some y) : lenSum (hs.take j) + y.adds.length ≤ lenSum hs := by
  conv => rhs; rw [split_at hy]
  simp only [lenSum, List.map_append, List.map_cons, List.sum_append, List.sum_cons]; omega
/-- Where the innermost round stands. -/
theorem added_split {l : List Pt} {path : ByteArray} {i j k : Nat} {x : Pt} {y : Hk} {s : ByteArray} (hx : l[i]? = some x) (hy : x.hunks[j]? = some y) (hs : y.adds[k]? = some s) (hp : y.path = path) :
    ∃ r, addedL l path = (addedL (l.take i) path ++ (ptAdds path x.id 0 (x.hunks.take j) ++ addsOf x.id (lenSum (x.hunks.take j)) (y.adds.take k))) ++ (⟨⟨x.id, ((lenSum (x.hunks.take j) + k : Nat) : Int)⟩, s, false⟩ : Ln) :: r := by
  have e1 : addedL l path = addedL (l.take i) path ++ (ptAdds path x.id 0 x.hunks ++ addedL (l.drop (i + 1)) path) := by
    conv => lhs; rw [split_at hx]
    simp [addedL]
  have e2 : ptAdds path x.id 0 x.hunks = ptAdds path x.id 0 (x.hunks.take j) ++ (addsOf x.id (lenSum (x.hunks.take j)) y.adds ++ ptAdds path x.id (lenSum (x.hunks.take j) + y.adds.length) (x.hunks.drop (j + 1))) := by
    conv => lhs; rw [split_at hy]
    rw [ptAdds_app, ptAdds, hkAdds, if_pos hp]
    simp
  have hk : k < y.adds.length := (List.getElem?_eq_some_iff.1 hs).1
  have e3 : addsOf x.id (lenSum (x.hunks.take j)) y.adds = addsOf x.id (lenSum (x.hunks.take j)) (y.adds.take k) ++ ((⟨⟨x.id, ((lenSum (x.hunks.take j) + k : Nat) : Int)⟩, s, false⟩ : Ln) :: addsOf x.id (lenSum (x.hunks.take j) + k + 1) (y.adds.drop (k + 1))) := by
    conv => lhs; rw [split_at hs]
    rw [addsOf_app, addsOf, List.length_take, Nat.min_eq_left (by omega)]
  rw [e1, e2, e3]
  exact ⟨addsOf x.id (lenSum (x.hunks.take j) + k + 1) (y.adds.drop (k + 1)) ++ (ptAdds path x.id (lenSum (x.hunks.take j) + y.adds.length) (x.hunks.drop (j + 1)) ++ addedL (l.drop (i + 1)) path), by simp⟩
def lnArgs (x : Ln) : Array Value := #[.agg #[.int .u32 x.id.p, .int .i64 x.id.n, .string x.text, .bool x.dead]]
/-- What lay in wa lies in W. -/
def Keeps (wa W : World) : Prop := ∀ i, i < wa.heap.size → W.heap[i]? = wa.heap[i]?
theorem Keeps.cm {wa W : World} (h : Keeps wa W) : CM wa W := fun b o v e => (World.cell?_of_block (h b (World.block_lt_of_cell? wa _ e))).trans e
theorem Keeps.fr {S : Nat → Prop} {wa W W' : World} (h : Keeps wa W) (hs : wa.heap.size ≤ W.heap.size) (hf : Fr S W W') (hn : ∀ i, i < wa.heap.size → ¬ S i) : Keeps wa W' := fun i hi => (hf.same i (by omega) (hn i hi)).trans (h i hi)

theorem added_any (w : World) (A : Option Addr) (n c : Nat) (path : ByteArray) : Calls Tryz.prog 60 #[.slice A n c, .string path] w fun e w' => e = .returned (.func (.func 94) #[] #[.pointer (some ⟨w.heap.size, 0, none⟩), .pointer (some ⟨w.heap.size + 1, 0, none⟩)]) ∧ w' = (w.alloc (.cells #[.slice A n c] 22)).alloc (.cells #[.string path] 9) := by
  go_enter Tryz.func60, Tryz.ntmps60
  go_wp2
  go_ret
  exact ⟨rfl, rfl⟩
theorem hunks_any (w : World) (A : Option Addr) (n c : Nat) (path : ByteArray) : Calls Tryz.prog 66 #[.slice A n c, .string path] w fun e w' => e = .returned (.func (.func 102) #[] #[.pointer (some ⟨w.heap.size, 0, none⟩), .pointer (some ⟨w.heap.size + 1, 0, none⟩)]) ∧ w' = (w.alloc (.cells #[.slice A n c] 22)).alloc (.cells #[.string path] 9) := by
  go_enter Tryz.func66, Tryz.ntmps66
  go_wp2
  go_ret
  exact ⟨rfl, rfl⟩
theorem enters_added1 : Enters Tryz.prog 94 := enters_of Tryz.func94 (by kernel_rfl) rfl
theorem enters_hunks1 : Enters Tryz.prog 102 := enters_of Tryz.func102 (by kernel_rfl) rfl
attribute [local go_sem] Oper.semAt_some
/-- How the own blocks of an iterator's rounds lie. -/
def Apart (N B1 B2 : Nat) (O : Nat → Prop) (W : World) : Prop := ∀ i, O i → i < W.heap.size ∧ N ≤ i ∧ i ≠ B1 ∧ i ≠ B2
/-- The state of an iterator over patches: W: the world at its call. -/
structure ItSt (wa W : World) (B1 B2 lp : Nat) (S : Value) (path : ByteArray) (O : Nat → Prop) (wr : World) : Prop where
  b1 : Box wr B1 22 S
  b2 : Box wr B2 9 (.string path)
  ap : Apart wa.heap.size B1 B2 O wr
  kp : Keeps wa wr
  sz : W.heap.size ≤ wr.heap.size
  na : wa.heap.size ≤ W.heap.size
  lp1 : wa.heap.size ≤ lp
  lp2 : lp ≠ B1
  lp3 : lp ≠ B2
  lp4 : lp < W.heap.size
/-- A block of the iterator's own. -/
def Held (lp : Nat) (b : Nat) (o : Obj) (O : Nat → Prop) (wr : World) : Prop := wr.heap[b]? = some o ∧ ¬ O b ∧ b ≠ lp
section
variable {wa W wr : World} {B1 B2 lp : Nat} {S : Value} {path : ByteArray} {O : Nat → Prop}
theorem ItSt.alloc (h : ItSt wa W B1 B2 lp S path O wr) (o : Obj) : ItSt wa W B1 B2 lp S path O (wr.alloc o) :=
  ⟨h.b1.old o, h.b2.old o, fun i hi => ⟨by have := (h.ap i hi).1; simp; omega, (h.ap i hi).2⟩, h.kp.fr (by have := h.sz; have := h.na; omega) (Fr.alloc No wr o) (fun _ _ e => e), by have := h.sz; simp; omega, h.na, h.lp1, h.lp2, h.lp3, h.lp4⟩
theorem ItSt.go (h : ItSt wa W B1 B2 lp S path O wr) {O' : Nat → Prop} {W' : World} (hf : Fr (fun i => O i ∨ i = lp) wr W') (hO : ∀ i, O' i → i < W'.heap.size ∧ (O i ∨ wr.heap.size ≤ i)) : ItSt wa W B1 B2 lp S path O' W' := by
  have s1 := h.sz
  have s2 := h.na
  have l1 := h.b1.lt
  have l2 := h.b2.lt
  refine ⟨h.b1.fr hf (fun e => ?_), h.b2.fr hf (fun e => ?_), fun i hi => ⟨(hO i hi).1, ?_⟩, h.kp.fr (by omega) hf (fun i hi e => ?_), by have := hf.size; omega, h.na, h.lp1, h.lp2, h.lp3, h.lp4⟩
  · rcases e with e | e
    · exact (h.ap _ e).2.2.1 rfl
    · exact h.lp2 e.symm
  · rcases e with e | e
    · exact (h.ap _ e).2.2.2 rfl
    · exact h.lp3 e.symm
  · rcases (hO i hi).2 with e | e
    · exact (h.ap i e).2
    · exact ⟨by omega, by omega, by omega⟩
  · rcases e with e | e
    · have := (h.ap i e).2.1; omega
    · have := h.lp1; omega
theorem Held.new (h : ItSt wa W B1 B2 lp S path O wr) (cs : Array Value) (t : TypeId) : Held lp wr.heap.size (.cells cs t (0, 0)) O (wr.alloc (.cells cs t)) :=
  ⟨heap_last _ _, fun e => by have := (h.ap _ e).1; omega, by have := h.lp4; have := h.sz; omega⟩
theorem Held.alloc {b : Nat} {o : Obj} (h : Held lp b o O wr) (o' : Obj) : Held lp b o O (wr.alloc o') := ⟨(Fr.alloc No wr o').heap (fun e => e) h.1, h.2⟩
theorem Held.go {b : Nat} {o : Obj} (h : Held lp b o O wr) {O' : Nat → Prop} {W' : World} (hf : Fr (fun i => O i ∨ i = lp) wr W') (hO : ∀ i, O' i → i < W'.heap.size ∧ (O i ∨ wr.heap.size ≤ i)) : Held lp b o O' W' :=
  ⟨hf.heap (fun e => e.elim h.2.1 h.2.2) h.1, fun e => by
    have hlt := (Array.getElem?_eq_some_iff.1 h.1).1
    rcases (hO _ e).2 with e | e
    · exact h.2.1 e
    · omega, h.2.2⟩
theorem ItSt.stab (h : ItSt wa W B1 B2 lp S path O wr) {β : Type} {J : β → (Nat → Prop) → World → Prop} (hJ : Stab W.heap.size J) {s : β} (hj : J s O wr) (o : Obj) : J s O (wr.alloc o) := hJ _ _ _ _ hj (Fr.alloc _ _ _)
end
set_option maxHeartbeats 4000000 in
set_option maxRecDepth 100000 in
theorem added_iter {wa w0 : World} {A : Option Addr} {c : Nat} {l : List Pt} (h : SlIs rPt wa (.slice A l.length c) l) (hf : Fr No wa w0) {B1 B2 : Nat} {path : ByteArray} (hB1 : Box w0 B1 22 (.slice A l.length c)) (hB2 : Box w0 B2 9 (.string path))
    (hN1 : wa.heap.size ≤ B1) (hN2 : wa.heap.size ≤ B2) (hL : ∀ p ∈ l, lenSum p.hunks ≤ 1000000) :
    Iter Tryz.prog 94 #[.pointer (some ⟨B1, 0, none⟩), .pointer (some ⟨B2, 0, none⟩)] lnArgs (addedL l path) (fun i => i < wa.heap.size ∨ i = B1 ∨ i = B2) w0 := by
  intro lp J Jx O W hsrc hO hl hls hJ hJx h0 hY
  have hB1W : Box W B1 22 (.slice A l.length c) := (hsrc B1 (.inr (.inl rfl))).2.trans hB1
  have hst : ItSt wa W B1 B2 lp (.slice A l.length c) path O W := ⟨hB1W, (hsrc B2 (.inr (.inr rfl))).2.trans hB2,
    fun i hi => ⟨(hO i hi).1, Nat.le_of_not_lt fun e => (hO i hi).2 (.inl e), fun e => (hO i hi).2 (.inr (.inl e)), fun e => (hO i hi).2 (.inr (.inr e))⟩,
    fun i hi => ((hsrc i (.inl hi)).2).trans (hf.same i hi (fun e => e)), Nat.le_refl _, Nat.le_trans hN1 (Nat.le_of_lt hB1W.lt),
    Nat.le_of_not_lt fun e => hls (.inl e), fun e => hls (.inr (.inl e)), fun e => hls (.inr (.inr e)), hl⟩
  have H := Lib.hid h
  have HL := Lib.hid hL
  have HY := Lib.hid hY
  have HSt := Lib.hid hst
  obtain ⟨_, _, _, _, hb⟩ := h.form
  have c1 := hB1W.cell
  clear h hf hB1 hB2 hsrc hO hls hL hY hB1W hst hN1 hN2 hl
  refine (callsIn_wide (n := 3)).1 ?_
  refine callsIn_of_wp Tryz.func94 rfl trivial ?_
  simp only [Tryz.ntmps94, List.size_toArray, List.length_cons, List.length_nil, Nat.reduceAdd, Nat.reduceSub, Array.replicate_succ, Array.replicate_zero, List.push_toArray, List.append_toArray, List.nil_append, List.cons_append]
  gi_wp2
  clear c1
  have HJ0 := Lib.hid h0
  clear h0
  gi_loopw [13] (fun i wr => ∃ (k : Nat) (O1 : Nat → Prop), i = .int .i64 k ∧ k ≤ l.length ∧ Hid (J (addedL (l.take k) path) O1 wr) ∧ Hid (ItSt wa W B1 B2 lp (.slice A l.length c) path O1 wr)) (fun i _ => l.length - (intOf i).toNat)
  case atStart => exact ⟨0, O, rfl, Nat.zero_le _, Lib.hid (by simpa [addedL] using HJ0.out), HSt⟩
  case round =>
    clear HJ0 HSt
    obtain ⟨k, O1, rfl, hk, hj, hw⟩ := hrel
    by_cases hlt : k < l.length
    · obtain ⟨b, o, x, Ad, cd, Am, cm, Ar, cr, Ah, ch, rfl, hx, q0, q1, q2, q3, q4, hp⟩ := at_pt H.out k hlt
      have hcm := hw.out.kp.cm
      have k0 := hcm _ _ _ q0
      have k1 := hcm _ _ _ q1
      have k2 := hcm _ _ _ q2
      have k3 := hcm _ _ _ q3
      have k4 := hcm _ _ _ q4
      have HX := Lib.hid hx
      have HP := Lib.hid hp
      have HLX := Lib.hid (HL.out x (List.mem_of_getElem? hx))
      obtain ⟨_, _, _, _, hbh⟩ := hp.hunks.form
      clear hx hp q0 q1 q2 q3 q4 hcm
      gi_wp2
      refine named (fun W2 hW2 => ?_)
      have hw2 := hw.out.alloc (.cells #[.int .u32 x.id, .slice Ad x.deps.length cd, .slice Am x.makes.length cm, .slice Ar x.drops.length cr, .slice Ah x.hunks.length ch] 52)
      have hp2 := Held.new hw.out #[.int .u32 x.id, .slice Ad x.deps.length cd, .slice Am x.makes.length cm, .slice Ar x.drops.length cr, .slice Ah x.hunks.length ch] 52
      have hj2 := hw.out.stab hJ hj.out (.cells #[.int .u32 x.id, .slice Ad x.deps.length cd, .slice Am x.makes.length cm, .slice Ar x.drops.length cr, .slice Ah x.hunks.length ch] 52)
      rw [← hW2] at hw2 hp2 hj2
      have HW2 := Lib.hid (And.intro hw2 (And.intro hp2 hj2))
      have hbp : ∃ bp, bp = wr.heap.size := ⟨_, rfl⟩
      obtain ⟨bp, hbp⟩ := hbp
      rw [← hbp] at HW2 ⊢
      clear hw2 hp2 hj2 hW2 k0 k1 k2 k3 k4 hw hj hbp
      gi_loopw [6, 20] (fun n i wq => ∃ (j : Nat) (O2 : Nat → Prop), n = .int .i64 (lenSum (x.hunks.take j) : Nat) ∧ i = .int .i64 j ∧ j ≤ x.hunks.length ∧ Hid (ItSt wa W B1 B2 lp (.slice (some ⟨b, o, none⟩) l.length c) path O2 wq ∧ Held lp bp (.cells #[.int .u32 x.id, .slice Ad x.deps.length cd, .slice Am x.makes.length cm, .slice Ar x.drops.length cr, .slice Ah x.hunks.length ch] 52 (0, 0)) O2 wq ∧ J (addedL (l.take k) path ++ ptAdds path x.id 0 (x.hunks.take j)) O2 wq)) (fun _ i _ => x.hunks.length - (intOf i).toNat)
      case atStart => exact ⟨0, O1, by simp [lenSum], rfl, Nat.zero_le _, by simpa [ptAdds] using HW2⟩
      case round =>
        clear HW2
        obtain ⟨j, O2, rfl, rfl, hjl, hw⟩ := hrel
        by_cases hlt2 : j < x.hunks.length
        · obtain ⟨b', o', y, Aa, ca, Ae, ce, Ak, ck, rfl, hz, q0, q1, q2, q3, hya, hye, hyk⟩ := at_hk HP.out.hunks j hlt2
          have hcm := hw.out.1.kp.cm
          have k0 := hcm _ _ _ q0
          have k1 := hcm _ _ _ q1
          have k2 := hcm _ _ _ q2
          have k3 := hcm _ _ _ q3
          obtain ⟨_, _, _, _, hba⟩ := hya.form
          have HZ := Lib.hid hz
          have HYA := Lib.hid hya
          have hsum := lenSum_le hz
          have hsum2 := HLX.out
          clear hz hya hye hyk q0 q1 q2 q3 hcm
          gi_wp2
          refine named (fun W3 hW3 => ?_)
          have hw2 := hw.out.1.alloc (.cells #[.string y.path, .slice Aa y.adds.length ca, .slice Ae y.edges.length ce, .slice Ak y.kills.length ck] 57)
          have hh2 := Held.new hw.out.1 #[.string y.path, .slice Aa y.adds.length ca, .slice Ae y.edges.length ce, .slice Ak y.kills.length ck] 57
          have hp2 := hw.out.2.1.alloc (.cells #[.string y.path, .slice Aa y.adds.length ca, .slice Ae y.edges.length ce, .slice Ak y.kills.length ck] 57)
          have hj2 := hw.out.1.stab hJ hw.out.2.2 (.cells #[.string y.path, .slice Aa y.adds.length ca, .slice Ae y.edges.length ce, .slice Ak y.kills.length ck] 57)
          rw [← hW3] at hw2 hp2 hj2 hh2
          have HW3 := Lib.hid (And.intro hw2 (And.intro hp2 (And.intro hh2 hj2)))
          obtain ⟨bh, hbh2⟩ : ∃ bh, bh = wr.heap.size := ⟨_, rfl⟩
          rw [← hbh2] at HW3 ⊢
          clear hw2 hp2 hh2 hj2 hW3 k0 k1 k2 k3 hw hbh2
          gi_loopw [27] (fun i wq => ∃ (m : Nat) (O3 : Nat → Prop), i = .int .i64 m ∧ m ≤ y.adds.length ∧ Hid (ItSt wa W B1 B2 lp (.slice (some ⟨b, o, none⟩) l.length c) path O3 wq ∧ Held lp bp (.cells #[.int .u32 x.id, .slice Ad x.deps.length cd, .slice Am x.makes.length cm, .slice Ar x.drops.length cr, .slice (some ⟨b', o', none⟩) x.hunks.length ch] 52 (0, 0)) O3 wq ∧
            Held lp bh (.cells #[.string y.path, .slice Aa y.adds.length ca, .slice Ae y.edges.length ce, .slice Ak y.kills.length ck] 57 (0, 0)) O3 wq ∧ J (addedL (l.take k) path ++ (ptAdds path x.id 0 (x.hunks.take j) ++ (if y.path = path then addsOf x.id (lenSum (x.hunks.take j)) (y.adds.take m) else []))) O3 wq)) (fun i _ => y.adds.length - (intOf i).toNat)
          case atStart => exact ⟨0, O2, rfl, Nat.zero_le _, by simpa [addsOf] using HW3⟩
          case round =>
            clear HW3
            obtain ⟨m, O3, rfl, hm, hw⟩ := hrel
            by_cases hlt3 : m < y.adds.length
            · obtain ⟨b3, o3, s, rfl, hs, q0⟩ := at_str HYA.out m hlt3
              have kz := hw.out.1.kp.cm _ _ _ q0
              have cP := cell_of_heap hw.out.2.1.1 0
              have cH := cell_of_heap hw.out.2.2.1.1 0
              have cB := hw.out.1.b2.cell
              have HS := Lib.hid hs
              clear hs q0
              by_cases hpe : y.path = path
              · have ht : (y.path.toList == path.toList) = true := by simp [hpe]
                obtain ⟨r, hr⟩ := added_split HX.out HZ.out HS.out hpe
                obtain ⟨fn, tmps, assign, body, hyl, hR⟩ := HY.out _ _ _ O3 wr hr (by have := hw.out.2.2.2; rwa [if_pos hpe] at this) 2
                simp only [lnArgs, Int.natCast_add] at hyl
                have HPE := Lib.hid hpe
                have HRR := Lib.hid hr
                clear hr hpe
                gi_wp2
                refine hR.mono ?_
                rintro e W' ⟨O', hf, hO', (⟨rfl, hj'⟩ | ⟨rfl, hjx⟩)⟩
                · gi_wp2
                  refine ⟨⟨m + 1, O', by go_num, by omega, ?_⟩, by simp [intOf]; omega⟩
                  obtain ⟨g1, g2, g3, g4⟩ := hw.out
                  refine Lib.hid ⟨g1.go hf hO', g2.go hf hO', g3.go hf hO', ?_⟩
                  rw [if_pos HPE.out, take_snoc HS.out, addsOf_app, List.length_take, Nat.min_eq_left (by omega)]
                  simpa [addsOf] using hj'
                · gi_wp2
                  refine bodyPost_ret (results_none rfl _ _ _) rfl (IterEnd.part HRR.out hjx)
              · have ht : (y.path.toList == path.toList) = false := by rw [str_eq]; simp [hpe]
                gi_wp2
                refine ⟨fun f hf => (by cases hf), ?_⟩
                gi_wp2
                refine ⟨⟨m + 1, O3, by go_num, by omega, by simpa [if_neg hpe] using hw⟩, by simp [intOf]; omega⟩
            · have cH := cell_of_heap hw.out.2.2.1.1 1
              gi_wp2
              refine ⟨⟨j + 1, O3, ?_, by go_num, by omega, ?_⟩, by simp [intOf]; omega⟩
              · rw [lenSum_snoc HZ.out]; go_num
              · obtain ⟨g1, g2, g3, g4⟩ := hw.out
                refine Lib.hid ⟨g1, g2, ?_⟩
                rw [take_snoc HZ.out, ptAdds_app]
                rw [List.take_of_length_le (l := y.adds) (by omega)] at g4
                simpa [ptAdds, hkAdds] using g4
        · gi_wp2
          refine ⟨⟨k + 1, O2, by go_num, by omega, ?_, Lib.hid hw.out.1⟩, by simp [intOf]; omega⟩
          have g3 := hw.out.2.2
          rw [List.take_of_length_le (show x.hunks.length ≤ j by omega)] at g3
          rw [take_snoc HX.out]
          simpa [addedL] using Lib.hid g3
    · gi_wp2
      go_end0
      rw [show l.take k = l from List.take_of_length_le (by omega)] at hj
      exact IterEnd.all hj.out
end Go.Proofs.YthnfkjcndidoaaaGreatDoor
