import Derived.Test.YthnfkjcndidoaaaGreatDoorCOf
set_option linter.unusedVariables false
set_option linter.unusedSimpArgs false
namespace Go.Proofs.YthnfkjcndidoaaaGreatDoor
open Go.RowKit Go.Shelf

/-! ### state.Alive, Count, Find, Leg -/
/-- A slice of ints of one's own. -/
def OwnI (w : World) (base : Nat) (v : Value) (xs : List Int) : Prop := w.ownsRow base 3 1 v xs.length (xs.map fun x => .int .i64 x)
theorem info_int : (Tryz.prog.info? 3).map (fun i => (i.zero, i.size, i.bytes)) = some (some (.int .i64 0), 1, 8) := by kernel_rfl
theorem flat_int : ∀ us : List Int, us.flatMap (fun x : Int => [Value.int .i64 x]) = us.map fun x => .int .i64 x
  | [] => rfl
  | s :: r => by rw [List.flatMap_cons, flat_int r]; rfl
theorem OwnI.sl {w : World} {base : Nat} {v : Value} {xs : List Int} (h : OwnI w base v xs) : SlIs rInt w v xs := by
  have := ownRow_sl rInt (fun x : Int => [Value.int .i64 x]) (f := id) (fun _ => rfl) (by decide) (zs := xs) (w := w) (base := base) (e := 3) (v := v) (by rw [flat_int]; exact h) (fun _ _ => rfl)
  simpa using this
theorem OwnI.app {w : World} {base : Nat} {v : Value} {xs : List Int} {n : Nat} {y : Int} (h : w.ownsRow base 3 1 v n (xs.map (fun x => Value.int .i64 x) ++ [.int .i64 y])) (hn : n = xs.length + 1) : OwnI w base v (xs ++ [y]) := by
  subst hn
  unfold OwnI
  rw [List.map_append, List.length_append]
  exact h
def FlV (W : World) (x : Fl) (Al : Option Addr) (cl : Nat) (Ap : Option Addr) (cp : Nat) : Prop := SlIs rLn W (.slice Al x.lines.length cl) x.lines ∧ SlIs rPr W (.slice Ap x.pairs.length cp) x.pairs
theorem FlV.fr {W W' : World} {x : Fl} {Al : Option Addr} {cl : Nat} {Ap : Option Addr} {cp : Nat} (h : FlV W x Al cl Ap cp) (hf : Fr No W W') : FlV W' x Al cl Ap cp := ⟨h.1.fr hf, h.2.fr hf⟩
def aliveL (l : List Ln) (k : Nat) : List Int := List.map (fun i : Nat => (i : Int)) ((List.range k).filter fun i : Nat => l[i]?.any fun x : Ln => !x.dead)
theorem aliveL_succ {l : List Ln} {k : Nat} {x : Ln} (hx : l[k]? = some x) : aliveL l (k + 1) = aliveL l k ++ if x.dead then [] else [(k : Int)] := by
  unfold aliveL
  rw [List.range_succ, List.filter_append, List.map_append]
  cases h : x.dead <;> simp [hx, h]
theorem aliveL_len (l : List Ln) (k : Nat) : (aliveL l k).length ≤ k := by
  unfold aliveL
  rw [List.length_map]
  exact Nat.le_trans (List.length_filter_le _ _) (by simp)
set_option maxHeartbeats 4000000 in
set_option maxRecDepth 100000 in
theorem alive_any {w : World} {x : Fl} {Al : Option Addr} {cl : Nat} {Ap : Option Addr} {cp : Nat} (h : FlV w x Al cl Ap cp) (hn : x.lines.length ≤ 1000000) :
    Calls Tryz.prog 17 #[.agg #[.string x.path, .slice Al x.lines.length cl, .slice Ap x.pairs.length cp]] w fun e w' => ∃ v, e = .returned v ∧ OwnI w' w.heap.size v (aliveL x.lines x.lines.length) ∧ Fr No w w' := by
  have H := Lib.hid h
  obtain ⟨_, _, _, _, hb⟩ := h.1.form
  obtain ⟨i0, hi, hz0, hz1, hz2⟩ := info_parts info_int
  have HI := Lib.hid (And.intro hi (And.intro hz0 (And.intro hz1 hz2)))
  clear h hi hz0 hz1 hz2
  go_enter Tryz.func17, Tryz.ntmps17
  go_wp2
  refine namedN (fun W1 hW1 => ?_)
  have hf1 : Fr No w W1 := by rw [hW1]; exact Fr.alloc _ _ _
  have hs1 : W1.heap.size = w.heap.size + 1 := by rw [hW1]; simp
  have H1 := Lib.hid (And.intro hf1 hs1)
  clear hW1 hf1 hs1
  go_loopw [3, 9] (fun v i wr => ∃ (v' : Value) (k : Nat), v' = v ∧ i = .int .i64 k ∧ k ≤ x.lines.length ∧ Hid (OwnI wr W1.heap.size v' (aliveL x.lines k)) ∧ Hid (Fr No W1 wr)) (fun _ i _ => x.lines.length - (intOf i).toNat)
  case atStart => exact ⟨_, 0, rfl, rfl, Nat.zero_le _, Lib.hid (own_none _ _ _ _), Lib.hid (Fr.refl _ _)⟩
  case round =>
    obtain ⟨v, k, rfl, rfl, hk, hO, hf⟩ := hrel
    by_cases hlt : k < x.lines.length
    · obtain ⟨b, o, y, rfl, hy, k0, k1, k2, k3⟩ := at_ln (H.out.1.fr (H1.out.1.trans hf.out)) k hlt
      have HY := Lib.hid hy
      clear hy
      cases hd : y.dead with
      | true =>
        rw [hd] at k3
        have HD := Lib.hid hd
        clear hd
        go_wp2
        go_roundw
        case rel =>
          refine ⟨_, k + 1, rfl, by go_num, by omega, Lib.hid ?_, Lib.hid (hf.out.trans (Fr.alloc _ _ _))⟩
          rw [aliveL_succ HY.out, HD.out, if_pos rfl, List.append_nil]
          exact own_fr hO.out (Fr.alloc No _ _) (fun _ _ e => e)
        case measure => simp [intOf]; omega
      | false =>
        rw [hd] at k3
        have HD := Lib.hid hd
        clear hd
        have hlen := aliveL_len x.lines k
        have hO1 : OwnI ((wr.alloc (.cells #[.int .u32 y.id.p, .int .i64 y.id.n, .string y.text, .bool false] 47)).alloc (.cells #[.int .i64 k] 3)) W1.heap.size v (aliveL x.lines k) := own_fr hO.out ((Fr.alloc No wr _).trans (Fr.alloc No _ _)) (fun _ _ e => e)
        have hbs : W1.heap.size ≤ wr.heap.size := hf.out.size
        obtain ⟨zs, hzs⟩ : ∃ zs, zs = aliveL x.lines k := ⟨_, rfl⟩
        rw [← hzs] at hO1 hlen
        have HX := Lib.hid (And.intro hO1 hzs)
        clear hO1 hzs
        go_wp2_with (at_builtin; refine stopAt ?_)
        refine Hid.go (growN rfl _ _ 35 rfl W1.heap.size 3 i0 _ 1 8 Tryz.underlying35 HI.out.1 HI.out.2.1 HI.out.2.2.1 HI.out.2.2.2 rfl (by decide) v _ _ rfl HX.out.1 ⟨wr.heap.size + 1, 0, none⟩ 1 1 [.int .i64 k] rfl rfl (by have := new_cells (wr.alloc (.cells #[.int .u32 y.id.p, .int .i64 y.id.n, .string y.text, .bool false] 47)) [.int .i64 k] 3; rw [World.size_alloc] at this; exact this) (by simp [Value.oneCell']) (by decide) (by unfold maxLen; omega) (by omega) (by simp; omega) ?_)
        intro g cap w1 hown hfa hg hgl
        go_wp2
        go_roundw
        case rel =>
          refine ⟨_, k + 1, rfl, by go_num, by omega, Lib.hid ?_, Lib.hid (((hf.out.trans (Fr.alloc _ _ _)).trans (Fr.alloc _ _ _)).comp hfa (fun _ _ e => e) (fun i hi e => by have := (own_block HX.out.1 e).1; omega))⟩
          rw [aliveL_succ HY.out, HD.out, if_neg (by decide), ← HX.out.2]
          exact OwnI.app hown rfl
        case measure => simp [intOf]; omega
    · obtain rfl : k = x.lines.length := by omega
      go_wp2
      go_ret
      exact ⟨_, rfl, own_lower hO.out (by have := H1.out.2; omega), H1.out.1.trans hf.out⟩
def countL (l : List Fl) : Nat := (l.map fun f => f.lines.length).sum
theorem countL_snoc {l : List Fl} {k : Nat} {x : Fl} (hx : l[k]? = some x) : countL (l.take (k + 1)) = countL (l.take k) + x.lines.length := by
  rw [take_snoc hx]; simp [countL]
theorem countL_le {l : List Fl} {k : Nat} {x : Fl} (hx : l[k]? = some x) : countL (l.take k) + x.lines.length ≤ countL l := by
  conv => rhs; rw [split_at hx]
  simp only [countL, List.map_append, List.map_cons, List.sum_append, List.sum_cons]; omega
set_option maxHeartbeats 4000000 in
set_option maxRecDepth 100000 in
theorem count_any {w : World} {A : Option Addr} {c : Nat} {l : List Fl} (h : SlIs rFl w (.slice A l.length c) l) (hn : countL l ≤ 1000000) :
    Calls Tryz.prog 25 #[.slice A l.length c] w fun e w' => e = .returned (.int .i64 (countL l : Nat)) ∧ Fr No w w' := by
  have H := Lib.hid h
  have HN := Lib.hid hn
  obtain ⟨_, _, _, _, hb⟩ := h.form
  clear h hn
  go_enter Tryz.func25, Tryz.ntmps25
  go_wp2
  go_loopw [3, 8] (fun n i wr => ∃ k : Nat, n = .int .i64 (countL (l.take k) : Nat) ∧ i = .int .i64 k ∧ k ≤ l.length ∧ Hid (Fr No w wr)) (fun _ i _ => l.length - (intOf i).toNat)
  case atStart => exact ⟨0, by simp [countL], rfl, Nat.zero_le _, Lib.hid (Fr.refl _ _)⟩
  case round =>
    obtain ⟨k, rfl, rfl, hk, hf⟩ := hrel
    by_cases hlt : k < l.length
    · obtain ⟨b, o, x, Al, cl, Ap, cp, rfl, hx, k0, k1, k2, s1, s2⟩ := at_fl (H.out.fr hf.out) k hlt
      have HX := Lib.hid hx
      have hle := countL_le hx
      have hn := HN.out
      clear hx s1 s2
      go_wp2
      go_roundw
      case rel => exact ⟨k + 1, by rw [countL_snoc HX.out]; go_num, by go_num, by omega, Lib.hid (hf.out.trans (Fr.alloc _ _ _))⟩
      case measure => simp [intOf]; omega
    · rw [List.take_of_length_le (by omega)]
      go_wp2
      go_ret
      exact ⟨rfl, hf.out⟩
end Go.Proofs.YthnfkjcndidoaaaGreatDoor
