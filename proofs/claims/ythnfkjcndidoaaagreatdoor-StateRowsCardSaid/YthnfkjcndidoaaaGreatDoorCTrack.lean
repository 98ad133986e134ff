import Derived.Test.YthnfkjcndidoaaaGreatDoorCIs
import Derived.Test.YthnfkjcndidoaaaGreatDoorCMap
import Derived.Test.YthnfkjcndidoaaaGreatDoorShelf
import Derived.Sort.KeysCollected
set_option linter.unusedVariables false
set_option linter.unusedSimpArgs false
namespace Go.Proofs.YthnfkjcndidoaaaGreatDoor
open Go.RowKit Go.Shelf Go.Maps

/-! ### state.tracked -/
/-- Block b is a set of strings: f tells which are in it. -/
def TrMap (w : World) (b n : Nat) (f : ByteArray → Bool) : Prop := ∃ D : DataW Unit, w.ownsMap Tryz.prog 9 (plainElem Tryz.prog 4) b n D ∧ IsMap D ∧ ∀ s : ByteArray, s.size ≤ maxLen → Maps.has D (.string s.data.toList) = f s
theorem strLaw : Keyed Tryz.prog 9 := string_keyed Tryz.underlying9
theorem TrMap.made (w : World) : TrMap (w.alloc (.map #[] 0)) w.heap.size 0 (fun _ => false) := ⟨_, World.ownsMap_made w _ _ _, isMap_empty, fun _ _ => rfl⟩
theorem TrMap.fr {S : Nat → Prop} {w w' : World} {b n : Nat} {f : ByteArray → Bool} (h : TrMap w b n f) (hf : Fr S w w') (hn : ¬ S b) : TrMap w' b n f := by
  obtain ⟨D, ⟨es, clock, hb, r⟩, h2⟩ := h
  exact ⟨D, ⟨es, clock, hf.heap hn hb, r⟩, h2⟩
theorem TrMap.congr {w : World} {b n : Nat} {f g : ByteArray → Bool} (h : TrMap w b n f) (hg : ∀ s, f s = g s) : TrMap w b n g := by
  rwa [show g = f from funext fun s => (hg s).symm]
theorem lit_ne {a b : ByteArray} (h : a ≠ b) : (Lit.string a.data.toList) ≠ .string b.data.toList := fun e => h (by
  cases a; cases b
  simp only [Lit.string.injEq] at e
  rw [ByteArray.mk.injEq]
  exact Array.toList_inj.1 e)
section
variable {w : World} {ops : Array Oper} {rest : List Oper} {o : Oper} {a : Act} {Q : Exit → Act → World → Prop}
theorem trPut (hg : o.guard = none) (m x v : Operand) (hop : o.op = Op.mapUpdate 94 m x v) {b n : Nat} {f : ByteArray → Bool} (hm : a.eval m = .map (some b)) (h : TrMap w b n f) (hn : n < maxLen) (s : ByteArray) (hs : s.size ≤ maxLen) (hx : a.eval x = .string s) (hv : a.eval v = .bool true)
    (hK : ∀ w', TrMap w' b (n + 1) (fun y => decide (y = s) || f y) → Fr (One b) w w' → wpList Tryz.prog ops Q rest (a.put o.dst undef) w') : wpList Tryz.prog ops Q (o :: rest) a w := by
  obtain ⟨D, h1, h2, h3⟩ := h
  refine wpList_mapUpdate_own w hg m x v 94 hop 9 4 strLaw Tryz.underlying94 _ b n D hm h1 hn _ _ _ hx hv (WideMaps.keyOf_string_mk Tryz.underlying9 hs) _ [] (plainElem_bool Tryz.underlying4 true) fun w' g1 g2 => ?_
  refine hK w' ⟨_, g1, h2.put _ _, fun y hy => ?_⟩ (Fr.grown g2 (fun k e => by cases e; rfl))
  by_cases e : y = s
  · subst e
    rw [has_put_same h2 (show WideAt.IsKeyLit (.string y.data.toList) from trivial)]
    simp
  · rw [has_put_other (lit_ne e), h3 y hy]
    simp [e]
theorem trDel (hg : o.guard = none) (m x : Operand) (hop : o.op = Op.call { callee := Callee.builtin Builtin.delete, args := #[m, x], argTypes := #[94, 9] }) {b n : Nat} {f : ByteArray → Bool} (hm : a.eval m = .map (some b)) (h : TrMap w b n f) (s : ByteArray) (hs : s.size ≤ maxLen) (hx : a.eval x = .string s)
    (hK : ∀ w', TrMap w' b n (fun y => !decide (y = s) && f y) → Fr (One b) w w' → wpList Tryz.prog ops Q rest (a.put o.dst (.tuple #[])) w') : wpList Tryz.prog ops Q (o :: rest) a w := by
  obtain ⟨D, h1, h2, h3⟩ := h
  refine wpList_delete_own w hg m x 94 9 hop 4 strLaw Tryz.underlying94 _ b n D hm h1 _ _ hx (WideMaps.keyOf_string_mk Tryz.underlying9 hs) fun w' g1 g2 => ?_
  refine hK w' ⟨_, g1, h2.del _, fun y hy => ?_⟩ (Fr.grown g2.grown (fun k e => by cases e; rfl))
  by_cases e : y = s
  · subst e
    rw [has_del_same]
    simp
  · rw [has_del_other (lit_ne e), h3 y hy]
    simp [e]
end
def madeB (l : List Pt) (s : ByteArray) : Bool := l.any fun p => p.makes.any fun y => decide (s = y)
def droppedB (l : List Pt) (s : ByteArray) : Bool := l.any fun p => p.drops.any fun y => decide (s = y)
theorem strLt_iff (x y : ByteArray) : strLt x y = true ↔ x.toList < y.toList := by
  unfold strLt
  rw [bytesLess_eq]
  simp
theorem toList_data (x : ByteArray) : x.toList = x.data.toList := by rw [ByteArray.toList_eq]
/-- slices.Sorted(maps.Keys(m)). -/
theorem sortedKeys {b n : Nat} {f : ByteArray → Bool} {w : World} (h : TrMap w b n f) (hn : n ≤ 1000000) (ts : List ByteArray) (hnd : ts.Nodup) (hm : ∀ s, s ∈ ts ↔ f s = true) (hl : ∀ s ∈ ts, s.size ≤ maxLen) :
    Calls Tryz.prog 58 #[.func (.func 93) #[] #[.pointer (some ⟨w.heap.size, 0, none⟩)]] (w.alloc (.cells #[.map (some b)] 94)) fun e w' => ∃ (v : Value) (us : List ByteArray), e = .returned v ∧
      w'.ownsRow (w.heap.size + 1) 9 1 v us.length (us.map Value.string) ∧ us.Perm ts ∧ us.Pairwise (fun x y => strLt x y = true) ∧ Fr No (w.alloc (.cells #[.map (some b)] 94)) w' := by
  obtain ⟨D0, hown, hM, hf⟩ := h
  have hbl := hown.lt
  have hsz : Maps.size D0 ≤ n := by
    obtain ⟨es, clock, _, _, hs, rfl⟩ := hown
    rw [size_eq, length_sorted]
    simpa using hs
  have hseq : SeqGives Fence.wide 2 Tryz.prog 93 #[.pointer (some ⟨w.heap.size, 0, none⟩)] encStr (fun ss => ss.Perm (strKeys D0)) (Maps.size D0) (w.alloc (.cells #[.map (some b)] 94)) :=
    AnyZ.keys_gives (ρ := Tryz.lKeys_ren) { Tryz.lKeys with } Fence.wide _ trivial rfl (by omega) w.heap.size b n D0 _ (by simp) (by simp) (by
      obtain ⟨es, clock, hb, Ft, hs, hD⟩ := hown
      exact ⟨es, clock, (Below.heap_alloc _ _ b hbl).trans hb, Ft, hs, hD⟩)
  have hsorts : AnyZ.SortsIn Tryz.prog Tryz.lSorted_ren Fence.wide 4 :=
    ⟨fun blk off cap ss W hH hblk hsz => callsIn_wide.2 (Tryz.slices_Sort_string blk off cap ss W hH hblk hsz),
     fun p cap W => callsIn_wide.2 (Tryz.slices_Sort_string_none p cap W)⟩
  have hcon := AnyZ.sorted_in Tryz.lSorted Fence.wide 5 trivial trivial trivial trivial rfl (by omega) hsorts (enters_of Tryz.func92 (by kernel_rfl) rfl) 93 #[.pointer (some ⟨w.heap.size, 0, none⟩)] trivial (enters_of Tryz.func93 (by kernel_rfl) rfl) _ _ (by unfold maxLen; omega) (by omega) _ hseq
  refine Calls.mono (show Calls Tryz.prog 58 _ _ _ from callsIn_wide.1 hcon) ?_
  rintro e w' ⟨v, ss, rfl, hS, hrow, _, hb⟩
  -- the keys as byte arrays
  have hperm : (ts.map fun s => s.data.toList).Perm (strKeys D0) := by
    obtain ⟨es, rfl, hk⟩ := hown.keysOf
    refine perm_strKeys ?_ (fun p hp => ?_) ?_ (fun x => ?_)
    · obtain ⟨es', e', hp⟩ := hown.tidy strLaw
      cases e'
      exact hp
    · obtain ⟨v, hv⟩ := hk p hp
      obtain ⟨x, _, hx, _⟩ := keyOf_str Tryz.underlying9 hv
      exact ⟨x, hx⟩
    · refine List.pairwise_map.2 (hnd.imp fun {a b} hne e => hne ?_)
      cases a; cases b
      rw [ByteArray.mk.injEq]
      exact Array.toList_inj.1 e
    · rw [List.mem_map]
      constructor
      · rintro ⟨s, hs, rfl⟩
        rw [hf s (hl s hs)]
        exact (hm s).1 hs
      · intro hx
        have hxl : x.length ≤ maxLen := by
          rw [has_eq, List.any_eq_true] at hx
          obtain ⟨p, hp, hpx⟩ := hx
          obtain ⟨v, hv⟩ := hk p hp
          obtain ⟨y, _, hy, hyl⟩ := keyOf_str Tryz.underlying9 hv
          have := WideAt.sameKey_eq hpx
          rw [hy] at this
          cases this
          exact hyl
        have := hf ⟨x.toArray⟩ (by show x.toArray.size ≤ maxLen; simpa using hxl)
        simp only [List.toList_toArray] at this
        rw [this] at hx
        exact ⟨⟨x.toArray⟩, (hm _).2 hx, by simp⟩
  have hsort : ss.mergeSort (fun x y => decide (x ≤ y)) = (ts.map fun s => s.data.toList).mergeSort (fun x y => decide (x ≤ y)) := mergeSort_of_perm (hS.trans hperm.symm)
  obtain ⟨us, hus⟩ : ∃ us : List ByteArray, us.map (fun s => s.data.toList) = (ts.map fun s => s.data.toList).mergeSort (fun x y => decide (x ≤ y)) := ⟨((ts.map fun s => s.data.toList).mergeSort (fun x y => decide (x ≤ y))).map (fun x => ⟨x.toArray⟩), by
    rw [List.map_map, show ((fun s : ByteArray => s.data.toList) ∘ fun x : List UInt8 => (⟨x.toArray⟩ : ByteArray)) = id from by funext x; simp, List.map_id]⟩
  have hup : us.Perm ts := by
    have h1 : (us.map fun s => s.data.toList).Perm (ts.map fun s => s.data.toList) := by rw [hus]; exact List.mergeSort_perm _ _
    have h2 := h1.map (fun x : List UInt8 => (⟨x.toArray⟩ : ByteArray))
    rw [List.map_map, List.map_map, show ((fun x : List UInt8 => (⟨x.toArray⟩ : ByteArray)) ∘ fun s : ByteArray => s.data.toList) = id from by funext s; cases s; simp, List.map_id, List.map_id] at h2
    exact h2
  have hlen : ss.length = us.length := by
    have h1 := congrArg List.length hus
    rw [List.length_map, List.length_mergeSort, List.length_map] at h1
    have h2 := (hS.trans hperm.symm).length_eq
    rw [List.length_map] at h2
    omega
  refine ⟨v, us, rfl, ?_, hup, ?_, Fr.of_below hb⟩
  · rw [hsort, ← hus, hlen, List.map_map] at hrow
    have e : (encStr ∘ fun s : ByteArray => s.data.toList) = Value.string := by funext s; simp [encStr]
    rw [e, show Tryz.lSorted_ren.t 26 = 9 from rfl] at hrow
    simpa using hrow
  · have tr : ∀ a b c : List UInt8, leB a b = true → leB b c = true → leB a c = true := fun a b c h1 h2 => by simp only [leB, decide_eq_true_eq] at *; exact List.le_trans h1 h2
    have to : ∀ a b : List UInt8, (leB a b || leB b a) = true := fun a b => by simp only [leB, Bool.or_eq_true, decide_eq_true_eq]; exact List.le_total a b
    have h1 : (us.map fun s => s.data.toList).Pairwise (fun a b => leB a b = true) := by rw [hus]; exact List.pairwise_mergeSort tr to _
    have h2 : us.Nodup := hup.nodup_iff.2 hnd
    rw [List.pairwise_map] at h1
    refine (h1.and h2).imp fun {a b} hab => ?_
    rw [strLt_iff, toList_data, toList_data]
    have hle := hab.1
    simp only [leB, decide_eq_true_eq] at hle
    rcases Classical.em (a.data.toList < b.data.toList) with h | h
    · exact h
    · exfalso
      have := List.le_antisymm hle (List.not_lt.1 h)
      refine hab.2 ?_
      cases a; cases b
      rw [ByteArray.mk.injEq]
      exact Array.toList_inj.1 this
theorem keysCall (w : World) (b : Nat) : Calls Tryz.prog 59 #[.map (some b)] w fun e w' => e = .returned (.func (.func 93) #[] #[.pointer (some ⟨w.heap.size, 0, none⟩)]) ∧ w' = w.alloc (.cells #[.map (some b)] 94) :=
  callsIn_wide.1 (AnyZ.keys_in Tryz.lKeys Fence.wide 5 trivial rfl (some b) w)
theorem any_snoc {l : List Pt} {k : Nat} {x : Pt} (hx : l[k]? = some x) (f : Pt → Bool) : (l.take (k + 1)).any f = ((l.take k).any f || f x) := by
  rw [List.take_add_one, hx]; simp
theorem anyS_snoc {l : List ByteArray} {k : Nat} {x : ByteArray} (hx : l[k]? = some x) (f : ByteArray → Bool) : (l.take (k + 1)).any f = ((l.take k).any f || f x) := by
  rw [List.take_add_one, hx]; simp
theorem flat_mem {l : List Pt} {k : Nat} {x : Pt} (hx : l[k]? = some x) : ((l.take k).flatMap (·.makes)).length + x.makes.length ≤ (l.flatMap (·.makes)).length := flat_le (f := (·.makes)) hx
set_option maxHeartbeats 4000000 in
set_option maxRecDepth 100000 in
theorem tracked_any {w : World} {A : Option Addr} {c : Nat} {l : List Pt} (h : SlIs rPt w (.slice A l.length c) l) (hM : (l.flatMap (·.makes)).length ≤ 1000000) (hS1 : ∀ p ∈ l, ∀ s ∈ p.makes, s.size ≤ 1000000) (hS2 : ∀ p ∈ l, ∀ s ∈ p.drops, s.size ≤ 1000000)
    (ts : List ByteArray) (hnd : ts.Nodup) (hm : ∀ s, s ∈ ts ↔ (madeB l s && !droppedB l s) = true) (hl : ∀ s ∈ ts, s.size ≤ maxLen) :
    Calls Tryz.prog 34 #[.slice A l.length c] w fun e w' => ∃ (v : Value) (us : List ByteArray), e = .returned v ∧ w'.ownsRow w.heap.size 9 1 v us.length (us.map Value.string) ∧ us.Perm ts ∧ us.Pairwise (fun x y => strLt x y = true) ∧ Fr No w w' := by
  have H := Lib.hid h
  have HM := Lib.hid (And.intro hM (And.intro hS1 hS2))
  have HT := Lib.hid (And.intro hnd (And.intro hm hl))
  obtain ⟨_, _, _, _, hb⟩ := h.form
  clear h hM hS1 hS2 hnd hm hl
  have hmm := @run_makeMap Tryz.prog
  go_enter Tryz.func34, Tryz.ntmps34
  go_wp2
  refine namedN (fun W1 hW1 => ?_)
  have hf1 : Fr No w W1 := by rw [hW1]; exact Fr.alloc _ _ _
  have hMp : TrMap W1 w.heap.size 0 (fun _ => false) := by rw [hW1]; exact TrMap.made w
  have HI := Lib.hid hMp
  have HF1 := Lib.hid hf1
  clear hW1 hMp hf1
  go_loopw [15] (fun i wr => ∃ k : Nat, i = .int .i64 k ∧ k ≤ l.length ∧ Hid (TrMap wr w.heap.size ((l.take k).flatMap (·.makes)).length (madeB (l.take k))) ∧ Hid (Fr No w wr)) (fun i _ => l.length - (intOf i).toNat)
  case atStart => exact ⟨0, rfl, Nat.zero_le _, Lib.hid (HI.out.congr (fun s => by simp [madeB])), HF1⟩
  case round =>
    clear HI HF1
    obtain ⟨k, rfl, hk, hTr, hf⟩ := hrel
    by_cases hlt : k < l.length
    · obtain ⟨b, o, x, Ad, cd, Am, cm, Ar, cr, Ah, ch, rfl, hx, q0, q1, q2, q3, q4, hp⟩ := at_pt H.out k hlt
      have k0 := hf.out.cell (fun e => e) q0
      have k1 := hf.out.cell (fun e => e) q1
      have k2 := hf.out.cell (fun e => e) q2
      have k3 := hf.out.cell (fun e => e) q3
      have k4 := hf.out.cell (fun e => e) q4
      have HX := Lib.hid hx
      have HP := Lib.hid hp
      obtain ⟨_, _, _, _, hbm⟩ := hp.makes.form
      have HB := Lib.hid (flat_mem hx)
      have HS := Lib.hid (HM.out.2.1 x (List.mem_of_getElem? hx))
      clear hx hp q0 q1 q2 q3 q4
      go_wp2
      clear k0 k1 k2 k3 k4
      refine namedN (fun W2 hW2 => ?_)
      have hf2 : Fr No wr W2 := by rw [hW2]; exact Fr.alloc _ _ _
      have H2 := Lib.hid (And.intro (hTr.out.fr hf2 (fun e => e)) (hf.out.trans hf2))
      clear hW2 hf2
      go_loopw [22] (fun i wq => ∃ j : Nat, i = .int .i64 j ∧ j ≤ x.makes.length ∧ Hid (TrMap wq w.heap.size (((l.take k).flatMap (·.makes)).length + j) (fun s => madeB (l.take k) s || (x.makes.take j).any fun y => decide (s = y))) ∧ Hid (Fr No w wq)) (fun i _ => x.makes.length - (intOf i).toNat)
      case atStart => exact ⟨0, rfl, Nat.zero_le _, Lib.hid (H2.out.1.congr (fun s => by simp)), Lib.hid H2.out.2⟩
      case round =>
        clear H2
        obtain ⟨j, rfl, hj, hTr2, hf2⟩ := hrel
        by_cases hlt2 : j < x.makes.length
        · obtain ⟨b2, o2, s, rfl, hs, q0⟩ := at_str HP.out.makes j hlt2
          have k0 := hf2.out.cell (fun e => e) q0
          have HSs := Lib.hid hs
          have hss : s.size ≤ maxLen := by have := HS.out s (List.mem_of_getElem? hs); unfold maxLen; omega
          have hnn : ((l.take k).flatMap (·.makes)).length + j < maxLen := by have := HB.out; have := HM.out.1; unfold maxLen; omega
          clear hs q0
          go_wp2_with (at_mapUpdate; refine trPut rfl _ _ _ rfl rfl hTr2.out hnn s hss rfl rfl ?_; intro w3 ht3 hf3; clear k0)
          go_roundw
          case rel =>
            refine ⟨j + 1, by go_num, by omega, Lib.hid (ht3.congr (fun y => ?_)), Lib.hid (hf2.out.comp hf3 (fun _ _ e => e) (fun i hi e => by have e : i = w.heap.size := e; omega))⟩
            rw [anyS_snoc HSs.out]
            cases decide (y = s) <;> cases madeB (l.take k) y <;> simp
          case measure => simp [intOf]; omega
        · rw [List.take_of_length_le (l := x.makes) (by omega)] at hTr2
          go_wp2
          go_roundw
          case rel =>
            refine ⟨k + 1, by go_num, by omega, Lib.hid ?_, hf2⟩
            have hlen : ((l.take (k + 1)).flatMap (·.makes)).length = ((l.take k).flatMap (·.makes)).length + j := by
              rw [take_flat HX.out, List.length_append]; omega
            rw [hlen]
            exact hTr2.out.congr (fun s => by rw [madeB, madeB, any_snoc HX.out])
          case measure => simp [intOf]; omega
    · obtain rfl : k = l.length := by omega
      rw [List.take_length] at hTr
      have HT0 := Lib.hid (And.intro hTr.out hf.out)
      clear hTr hf hk hlt
      go_wp2
      go_loopw [32] (fun i wr => ∃ k : Nat, i = .int .i64 k ∧ k ≤ l.length ∧ Hid (TrMap wr w.heap.size (l.flatMap (·.makes)).length (fun s => madeB l s && !droppedB (l.take k) s)) ∧ Hid (Fr No w wr)) (fun i _ => l.length - (intOf i).toNat)
      case atStart => exact ⟨0, rfl, Nat.zero_le _, Lib.hid (HT0.out.1.congr (fun s => by simp [droppedB])), Lib.hid HT0.out.2⟩
      case round =>
        clear HT0
        obtain ⟨k, rfl, hk, hTr, hf⟩ := hrel
        by_cases hlt : k < l.length
        · obtain ⟨b, o, x, Ad, cd, Am, cm, Ar, cr, Ah, ch, rfl, hx, q0, q1, q2, q3, q4, hp⟩ := at_pt H.out k hlt
          have k0 := hf.out.cell (fun e => e) q0
          have k1 := hf.out.cell (fun e => e) q1
          have k2 := hf.out.cell (fun e => e) q2
          have k3 := hf.out.cell (fun e => e) q3
          have k4 := hf.out.cell (fun e => e) q4
          have HX := Lib.hid hx
          have HP := Lib.hid hp
          obtain ⟨_, _, _, _, hbm⟩ := hp.drops.form
          have HS := Lib.hid (HM.out.2.2 x (List.mem_of_getElem? hx))
          clear hx hp q0 q1 q2 q3 q4
          go_wp2
          clear k0 k1 k2 k3 k4
          refine namedN (fun W2 hW2 => ?_)
          have hf2 : Fr No wr W2 := by rw [hW2]; exact Fr.alloc _ _ _
          have H2 := Lib.hid (And.intro (hTr.out.fr hf2 (fun e => e)) (hf.out.trans hf2))
          clear hW2 hf2
          go_loopw [39] (fun i wq => ∃ j : Nat, i = .int .i64 j ∧ j ≤ x.drops.length ∧ Hid (TrMap wq w.heap.size (l.flatMap (·.makes)).length (fun s => madeB l s && !(droppedB (l.take k) s || (x.drops.take j).any fun y => decide (s = y)))) ∧ Hid (Fr No w wq)) (fun i _ => x.drops.length - (intOf i).toNat)
          case atStart => exact ⟨0, rfl, Nat.zero_le _, Lib.hid (H2.out.1.congr (fun s => by simp)), Lib.hid H2.out.2⟩
          case round =>
            clear H2
            obtain ⟨j, rfl, hj, hTr2, hf2⟩ := hrel
            by_cases hlt2 : j < x.drops.length
            · obtain ⟨b2, o2, s, rfl, hs, q0⟩ := at_str HP.out.drops j hlt2
              have k0 := hf2.out.cell (fun e => e) q0
              have HSs := Lib.hid hs
              have hss : s.size ≤ maxLen := by have := HS.out s (List.mem_of_getElem? hs); unfold maxLen; omega
              clear hs q0
              go_wp2_with (at_delete; refine trDel rfl _ _ rfl rfl hTr2.out s hss rfl ?_; intro w3 ht3 hf3; clear k0)
              go_roundw
              case rel =>
                refine ⟨j + 1, by go_num, by omega, Lib.hid (ht3.congr (fun y => ?_)), Lib.hid (hf2.out.comp hf3 (fun _ _ e => e) (fun i hi e => by have e : i = w.heap.size := e; omega))⟩
                rw [anyS_snoc HSs.out]
                cases decide (y = s) <;> cases madeB l y <;> simp
              case measure => simp [intOf]; omega
            · rw [List.take_of_length_le (l := x.drops) (by omega)] at hTr2
              go_wp2
              go_roundw
              case rel =>
                refine ⟨k + 1, by go_num, by omega, Lib.hid ?_, hf2⟩
                exact hTr2.out.congr (fun s => by rw [droppedB, droppedB, any_snoc HX.out])
              case measure => simp [intOf]; omega
        · obtain rfl : k = l.length := by omega
          rw [List.take_length] at hTr
          have HSK := Lib.hid (sortedKeys hTr.out HM.out.1 ts HT.out.1 HT.out.2.1 HT.out.2.2)
          go_wp2_with (first | (go_at_call 59; refine (keysCall _ _).mono ?_; rintro e w' ⟨rfl, rfl⟩) | (go_at_call 58; refine HSK.out.mono ?_; rintro e w5 ⟨v, us, rfl, hr5, hp5, hs5, hf5⟩))
          go_ret
          exact ⟨v, us, rfl, own_lower hr5 (by have := hf.out.size; omega), hp5, hs5, hf.out.trans ((Fr.alloc _ _ _).trans hf5)⟩
end Go.Proofs.YthnfkjcndidoaaaGreatDoor
