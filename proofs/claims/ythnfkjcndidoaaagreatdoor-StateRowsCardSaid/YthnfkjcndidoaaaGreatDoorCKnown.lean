import Derived.Test.YthnfkjcndidoaaaGreatDoorCEval
import Derived.Test.YthnfkjcndidoaaaGreatDoorCFew
set_option linter.unusedVariables false
set_option linter.unusedSimpArgs false
namespace Go.Proofs.YthnfkjcndidoaaaGreatDoor
open Go.RowKit Go.Shelf

/-! ### known -/
def allocs (w : World) : List Obj → World
  | [] => w
  | o :: r => allocs (w.alloc o) r
theorem allocs_fr : ∀ (os : List Obj) (w : World), Fr No w (allocs w os)
  | [], w => Fr.refl _ _
  | o :: r, w => (Fr.alloc No w o).trans (allocs_fr r _)
theorem allocs_size : ∀ (os : List Obj) (w : World), (allocs w os).heap.size = w.heap.size + os.length
  | [], w => rfl
  | o :: r, w => by rw [allocs, allocs_size r, World.size_alloc, List.length_cons]; omega
theorem allocs_at : ∀ (os : List Obj) (w : World) (k : Nat) (o : Obj), os[k]? = some o → (allocs w os).heap[w.heap.size + k]? = some o
  | [], w, k, o, h => by simp at h
  | o' :: r, w, 0, o, h => by
    have h : o' = o := by simpa using h
    subst h
    exact (allocs_fr r _).heap (fun e => e) (by
      have := World.alloc_heap_new w o'
      simpa using this)
  | o' :: r, w, k + 1, o, h => by
    have := allocs_at r (w.alloc o') k o (by simpa using h)
    rw [World.size_alloc] at this
    rw [allocs, show w.heap.size + (k + 1) = w.heap.size + 1 + k by omega]
    exact this
/-- A block read as a row. -/
theorem row_at {W : World} {g : Nat} {cur : Array Value} {e : TypeId} {n size : Nat} (hb : W.heap[g]? = some (.cells cur e (0, 0))) (hs : cur.size = n * size) (hn : n ≤ maxLen) : W.ownsRow 0 e size (.slice (some ⟨g, 0, none⟩) n n) n cur.toList :=
  ⟨by rw [Array.length_toList]; exact hs, .inr ⟨g, n, cur, rfl, Nat.zero_le _, hb, Nat.le_refl _, hn, hs, by rw [← hs, ← Array.length_toList, List.take_length]⟩⟩
def hkCell' (t : Hk × Value × Value × Value) : List Value := [.string t.1.path, t.2.1, t.2.2.1, t.2.2.2]
def ptCell (t : Pt × Value × Value × Value × Value) : List Value := [.int .u32 t.1.id, t.2.1, t.2.2.1, t.2.2.2.1, t.2.2.2.2]
def lidCell (x : LId) : List Value := [.int .u32 x.p, .int .i64 x.n]
def edgCell (x : Edg) : List Value := [.int .u32 x.a.p, .int .i64 x.a.n, .int .u32 x.b.p, .int .i64 x.b.n]
section
variable {W : World} {g : Nat} {cur : Array Value} {e : TypeId}
theorem sl_str (xs : List ByteArray) (hb : W.heap[g]? = some (.cells cur e (0, 0))) (hc : cur.toList = xs.map Value.string) (hn : xs.length ≤ maxLen) : SlIs rStr W (.slice (some ⟨g, 0, none⟩) xs.length xs.length) xs := by
  have h := row_at (n := xs.length) (size := 1) hb (by rw [← Array.length_toList, hc]; simp) hn
  rw [hc] at h
  have := ownRow_sl rStr (fun s : ByteArray => [Value.string s]) (f := id) (fun _ => rfl) (by decide) (zs := xs) (by rw [flat_one]; exact h) (fun _ _ => rfl)
  simpa using this
theorem flat_u32 : ∀ us : List Nat, us.flatMap (fun x : Nat => [Value.int .u32 x]) = us.map fun x : Nat => Value.int .u32 x
  | [] => rfl
  | s :: r => by rw [List.flatMap_cons, flat_u32 r]; rfl
theorem sl_u32 (xs : List Nat) (hb : W.heap[g]? = some (.cells cur e (0, 0))) (hc : cur.toList = xs.map fun x : Nat => Value.int .u32 x) (hn : xs.length ≤ maxLen) : SlIs rU32 W (.slice (some ⟨g, 0, none⟩) xs.length xs.length) xs := by
  have h := row_at (n := xs.length) (size := 1) hb (by rw [← Array.length_toList, hc]; simp) hn
  rw [hc] at h
  have := ownRow_sl rU32 (fun x : Nat => [Value.int .u32 x]) (f := id) (fun _ => rfl) (by decide) (zs := xs) (by rw [flat_u32]; exact h) (fun _ _ => rfl)
  simpa using this
theorem sl_lid (xs : List LId) (hb : W.heap[g]? = some (.cells cur e (0, 0))) (hc : cur.toList = xs.flatMap lidCell) (hs : cur.size = xs.length * 2) (hn : xs.length ≤ maxLen) : SlIs rLId W (.slice (some ⟨g, 0, none⟩) xs.length xs.length) xs := by
  have h := row_at (n := xs.length) (size := 2) hb hs hn
  rw [hc] at h
  have := ownRow_sl rLId lidCell (f := id) (fun _ => rfl) (by decide) (zs := xs) h (fun _ _ => rfl)
  simpa using this
theorem sl_edg (xs : List Edg) (hb : W.heap[g]? = some (.cells cur e (0, 0))) (hc : cur.toList = xs.flatMap edgCell) (hs : cur.size = xs.length * 4) (hn : xs.length ≤ maxLen) : SlIs rEdg W (.slice (some ⟨g, 0, none⟩) xs.length xs.length) xs := by
  have h := row_at (n := xs.length) (size := 4) hb hs hn
  rw [hc] at h
  have := ownRow_sl rEdg edgCell (f := id) (fun _ => rfl) (by decide) (zs := xs) h (fun _ _ => rfl)
  simpa using this
theorem sl_hk (zs : List (Hk × Value × Value × Value)) (hb : W.heap[g]? = some (.cells cur e (0, 0))) (hc : cur.toList = zs.flatMap hkCell') (hs : cur.size = zs.length * 4) (hn : zs.length ≤ maxLen)
    (hK : ∀ z ∈ zs, SlIs rStr W z.2.1 z.1.adds ∧ SlIs rEdg W z.2.2.1 z.1.edges ∧ SlIs rLId W z.2.2.2 z.1.kills) : SlIs rHk W (.slice (some ⟨g, 0, none⟩) zs.length zs.length) (zs.map (·.1)) := by
  have h := row_at (n := zs.length) (size := 4) hb hs hn
  rw [hc] at h
  exact ownRow_sl rHk hkCell' (f := (·.1)) (fun _ => rfl) (by decide) (zs := zs) h (fun z hz => ⟨z.2.1, z.2.2.1, z.2.2.2, rfl, (hK z hz).1, (hK z hz).2.1, (hK z hz).2.2⟩)
theorem sl_pt (zs : List (Pt × Value × Value × Value × Value)) (hb : W.heap[g]? = some (.cells cur e (0, 0))) (hc : cur.toList = zs.flatMap ptCell) (hs : cur.size = zs.length * 5) (hn : zs.length ≤ maxLen)
    (hK : ∀ z ∈ zs, SlIs rU32 W z.2.1 z.1.deps ∧ SlIs rStr W z.2.2.1 z.1.makes ∧ SlIs rStr W z.2.2.2.1 z.1.drops ∧ SlIs rHk W z.2.2.2.2 z.1.hunks) : SlIs rPt W (.slice (some ⟨g, 0, none⟩) zs.length zs.length) (zs.map (·.1)) := by
  have h := row_at (n := zs.length) (size := 5) hb hs hn
  rw [hc] at h
  exact ownRow_sl rPt ptCell (f := (·.1)) (fun _ => rfl) (by decide) (zs := zs) h (fun z hz => ⟨z.2.1, z.2.2.1, z.2.2.2.1, z.2.2.2.2, rfl, (hK z hz).1, (hK z hz).2.1, (hK z hz).2.2.1, (hK z hz).2.2.2⟩)
end
/-- What known lays in memory from block n on. -/
def knownObs (n : Nat) : List Obj := [
  .cells #[.string ⟨#[97]⟩] 9,
  .cells #[.string ⟨#[120, 10]⟩, .string ⟨#[121]⟩] 9,
  .cells #[.int .u32 1, .int .i64 0, .int .u32 1, .int .i64 1] 59,
  .cells #[.string ⟨#[97]⟩, .slice (some ⟨n + 1, 0, none⟩) 2 2, .slice (some ⟨n + 1 + 1, 0, none⟩) 1 1, .slice none 0 0] 57,
  .cells #[.int .u32 1, .slice none 0 0, .slice (some ⟨n, 0, none⟩) 1 1, .slice none 0 0, .slice (some ⟨n + 1 + 1 + 1, 0, none⟩) 1 1] 52,
  .cells #[.int .u32 1] 43,
  .cells #[.int .u32 1, .int .i64 0] 45,
  .cells #[.string ⟨#[97]⟩, .slice none 0 0, .slice none 0 0, .slice (some ⟨n + 1 + 1 + 1 + 1 + 1 + 1, 0, none⟩) 1 1] 57,
  .cells #[.int .u32 2, .slice (some ⟨n + 1 + 1 + 1 + 1 + 1, 0, none⟩) 1 1, .slice none 0 0, .slice none 0 0, .slice (some ⟨n + 1 + 1 + 1 + 1 + 1 + 1 + 1, 0, none⟩) 1 1] 52]
def qpCells (n : Nat) : Array Value := #[.int .u32 2, .slice (some ⟨n + 1 + 1 + 1 + 1 + 1, 0, none⟩) 1 1, .slice none 0 0, .slice none 0 0, .slice (some ⟨n + 1 + 1 + 1 + 1 + 1 + 1 + 1, 0, none⟩) 1 1, .int .u32 1, .slice none 0 0, .slice (some ⟨n, 0, none⟩) 1 1, .slice none 0 0, .slice (some ⟨n + 1 + 1 + 1, 0, none⟩) 1 1]
def pVals (n : Nat) : Pt × Value × Value × Value × Value := (pPt, .slice none 0 0, .slice (some ⟨n, 0, none⟩) 1 1, .slice none 0 0, .slice (some ⟨n + 3, 0, none⟩) 1 1)
def qVals (n : Nat) : Pt × Value × Value × Value × Value := (qPt, .slice (some ⟨n + 5, 0, none⟩) 1 1, .slice none 0 0, .slice none 0 0, .slice (some ⟨n + 7, 0, none⟩) 1 1)
/-- They lie in W as they were laid. -/
def KnownAt (n : Nat) (W : World) : Prop := ∀ (k : Nat) (o : Obj), (knownObs n)[k]? = some o → W.heap[n + k]? = some o
theorem KnownAt.fr {n : Nat} {W W' : World} (h : KnownAt n W) (hf : Fr No W W') : KnownAt n W' := fun k o hk => hf.heap (fun e => e) (h k o hk)
theorem KnownAt.p {n : Nat} {W : World} (h : KnownAt n W) : SlIs rU32 W (pVals n).2.1 pPt.deps ∧ SlIs rStr W (pVals n).2.2.1 pPt.makes ∧ SlIs rStr W (pVals n).2.2.2.1 pPt.drops ∧ SlIs rHk W (pVals n).2.2.2.2 pPt.hunks := by
  refine ⟨slNil _ _, sl_str [⟨#[97]⟩] (h 0 _ rfl) rfl (by decide), slNil _ _, ?_⟩
  exact sl_hk [(⟨⟨#[97]⟩, [⟨#[120, 10]⟩, ⟨#[121]⟩], [⟨⟨1, 0⟩, ⟨1, 1⟩⟩], []⟩, .slice (some ⟨n + 1, 0, none⟩) 2 2, .slice (some ⟨n + 2, 0, none⟩) 1 1, .slice none 0 0)] (h 3 _ rfl) rfl rfl (by simp [maxLen]) (fun z hz => by
    rw [List.mem_singleton.1 hz]
    exact ⟨sl_str [⟨#[120, 10]⟩, ⟨#[121]⟩] (h 1 _ rfl) rfl (by decide), sl_edg [⟨⟨1, 0⟩, ⟨1, 1⟩⟩] (h 2 _ rfl) rfl rfl (by decide), slNil _ _⟩)
theorem KnownAt.q {n : Nat} {W : World} (h : KnownAt n W) : SlIs rU32 W (qVals n).2.1 qPt.deps ∧ SlIs rStr W (qVals n).2.2.1 qPt.makes ∧ SlIs rStr W (qVals n).2.2.2.1 qPt.drops ∧ SlIs rHk W (qVals n).2.2.2.2 qPt.hunks := by
  refine ⟨sl_u32 [1] (h 5 _ rfl) rfl (by decide), slNil _ _, slNil _ _, ?_⟩
  exact sl_hk [(⟨⟨#[97]⟩, [], [], [⟨1, 0⟩]⟩, .slice none 0 0, .slice none 0 0, .slice (some ⟨n + 6, 0, none⟩) 1 1)] (h 7 _ rfl) rfl rfl (by simp [maxLen]) (fun z hz => by
    rw [List.mem_singleton.1 hz]
    exact ⟨slNil _ _, slNil _ _, sl_lid [⟨1, 0⟩] (h 6 _ rfl) rfl rfl (by decide)⟩)
theorem field_obj (w : World) (A : Option Addr) (n c : Nat) (b : Value) : (Instr.field 41 (.agg #[.slice A n c, b]) 0).run Tryz.prog w = .ok (.slice A n c) w := by kernel_rfl
theorem small_qp : Small [qPt, pPt] := ⟨by decide, by decide, by decide⟩
theorem small_q : Small [qPt] := ⟨by decide, by decide, by decide⟩
set_option maxHeartbeats 4000000 in
set_option maxRecDepth 100000 in
theorem known_any {w : World} (hT : Tab w) : Calls Tryz.prog 9 #[] w fun e w' => e = .returned (.bool true) ∧ Fr No w w' := by
  have HT := Lib.hid hT
  clear hT
  go_enter Tryz.func9, Tryz.ntmps9
  go_wp2_with (go_at_call 11; refine stopAt ?_)
  refine Hid.go (namedC (fun W1 hW1 => ?_))
  have hW1' : W1 = allocs w (knownObs w.heap.size ++ [.cells (qpCells w.heap.size) 52]) := hW1
  have hK1 : KnownAt w.heap.size W1 := fun k o hk => by
    rw [hW1']
    refine allocs_at _ w k o ?_
    rw [List.getElem?_append_left (List.getElem?_eq_some_iff.1 hk).1]
    exact hk
  have hL1 : W1.heap[w.heap.size + 9]? = some (.cells (qpCells w.heap.size) 52 (0, 0)) := by rw [hW1']; exact allocs_at _ w 9 _ rfl
  have hf1 : Fr No w W1 := by rw [hW1']; exact allocs_fr _ _
  have hsl : SlIs rPt W1 (.slice (some ⟨w.heap.size + 9, 0, none⟩) 2 2) [qPt, pPt] := sl_pt [qVals w.heap.size, pVals w.heap.size] hL1 rfl rfl (by simp [maxLen]) (fun z hz => by
    rcases List.mem_cons.1 hz with rfl | hz
    · exact hK1.q
    · rw [List.mem_singleton.1 hz]; exact hK1.p)
  clear hW1 hW1' hL1
  refine (of_any hsl (HT.out.fr hf1 (fun e => e)) small_qp).mono ?_
  rintro e W2 ⟨v2, rfl, ho2, hf2⟩
  rw [evE]
  rw [evF] at ho2
  have hK2 := hK1.fr hf2
  obtain ⟨A2, c2, rfl, _, _⟩ := ho2.form
  obtain ⟨bF, oF, xF, Al, cl, Ap, cp, rfl, hx, g0, g1, g2, s1, s2⟩ := at_fl ho2 0 (by decide)
  obtain rfl : kFile = xF := by simpa using hx
  have q0 : W2.cell? ⟨w.heap.size + 1 + 1 + 1 + 1 + 1 + 1 + 1 + 1, 0, none⟩ = some (.int .u32 2) := cell_of_heap (hK2 8 _ rfl) 0
  have q1 : W2.cell? ⟨w.heap.size + 1 + 1 + 1 + 1 + 1 + 1 + 1 + 1, 1, none⟩ = some (.slice (some ⟨w.heap.size + 1 + 1 + 1 + 1 + 1, 0, none⟩) 1 1) := cell_of_heap (hK2 8 _ rfl) 1
  have q2 : W2.cell? ⟨w.heap.size + 1 + 1 + 1 + 1 + 1 + 1 + 1 + 1, 2, none⟩ = some (.slice none 0 0) := cell_of_heap (hK2 8 _ rfl) 2
  have q3 : W2.cell? ⟨w.heap.size + 1 + 1 + 1 + 1 + 1 + 1 + 1 + 1, 3, none⟩ = some (.slice none 0 0) := cell_of_heap (hK2 8 _ rfl) 3
  have q4 : W2.cell? ⟨w.heap.size + 1 + 1 + 1 + 1 + 1 + 1 + 1 + 1, 4, none⟩ = some (.slice (some ⟨w.heap.size + 1 + 1 + 1 + 1 + 1 + 1 + 1, 0, none⟩) 1 1) := cell_of_heap (hK2 8 _ rfl) 4
  have H2 := Lib.hid (And.intro hK2 (And.intro (hf1.trans hf2) (And.intro ho2 (And.intro g0 (And.intro g1 (And.intro g2 (And.intro s1 s2)))))))
  clear hK1 hK2 hf1 hf2 ho2 g0 g1 g2 s1 s2 hsl hx
  go_wp2_with (go_at_call 11; refine stopAt ?_)
  refine Hid.go (namedC (fun W3 hW3 => ?_))
  obtain ⟨hK2, hf2, ho2, g0, g1, g2, s1, s2⟩ := H2.out
  have hf3 : Fr No W2 W3 := by rw [hW3]; exact Fr.alloc _ _ _
  have hsl3 : SlIs rPt W3 (.slice (some ⟨W2.heap.size, 0, none⟩) 1 1) [qPt] := sl_pt [qVals w.heap.size] (by rw [hW3]; exact heap_last _ _) rfl rfl (by simp [maxLen]) (fun z hz => by
    rw [List.mem_singleton.1 hz]
    exact (hK2.fr hf3).q)
  clear hW3
  refine (of_any hsl3 (HT.out.fr (hf2.trans hf3) (fun e => e)) small_q).mono ?_
  rintro e W4 ⟨v4, rfl, ho4, hf4⟩
  rw [evG]
  have hf24 := hf3.trans hf4
  obtain ⟨A4, c4, rfl, _, _⟩ := ho4.form
  have H4 := Lib.hid (And.intro (hK2.fr hf24) (And.intro (hf2.trans hf24) (And.intro (ho2.fr hf24) (show FlV W4 kFile Al cl Ap cp from ⟨s1.fr hf24, s2.fr hf24⟩))))
  have k0 : W4.cell? ⟨bF, oF, none⟩ = some (.string ⟨#[97]⟩) := by simpa [kFile] using hf24.cell (fun e => e) g0
  have k1 : W4.cell? ⟨bF, oF + 1, none⟩ = some (.slice Al 2 cl) := by simpa [kFile] using hf24.cell (fun e => e) g1
  have k2 : W4.cell? ⟨bF, oF + 2, none⟩ = some (.slice Ap 1 cp) := by simpa [kFile] using hf24.cell (fun e => e) g2
  have HK := Lib.hid (And.intro k0 (And.intro k1 k2))
  clear hK2 hf2 ho2 g0 g1 g2 s1 s2 hf3 hf4 hf24 hsl3 H2 q0 q1 q2 q3 q4
  go_wp2_with (first | (go_at_call 17; refine stopAt ?_))
  refine Hid.go ((alive_any (x := kFile) H4.out.2.2.2 (by decide)).mono ?_)
  rintro e W5 ⟨v5, rfl, ho5, hf5⟩
  rw [evA] at ho5
  obtain ⟨A5, c5, rfl, _⟩ := own_form ho5
  clear k0 k1 k2
  go_wp2_with (first | (go_at_call 12; refine stopAt ?_))
  refine Hid.go ((find_any (l := [kFile]) (H4.out.2.2.1.fr hf5) ⟨#[98]⟩).mono ?_)
  rintro e W6 ⟨x6, B1, d1, B2, d2, is6, rfl, hv6, he6, hf6⟩
  rw [evS] at he6
  obtain ⟨rfl, rfl⟩ : noFile = x6 ∧ false = is6 := by simpa using he6
  go_wp2
  refine namedN (fun W7 hW7 => ?_)
  have hf67 : Fr No W6 W7 := by rw [hW7]; exact Fr.alloc _ _ _
  have hf47 := (hf5.trans hf6).trans hf67
  have H7 := Lib.hid (And.intro (H4.out.1.fr hf47) (And.intro (H4.out.2.1.trans hf47) (And.intro (H4.out.2.2.1.fr hf47) (And.intro (H4.out.2.2.2.fr hf47) (own_fr ho5 (hf6.trans hf67) (fun _ _ e => e))))))
  have k0 := hf47.cell (fun e => e) HK.out.1
  have k1 := hf47.cell (fun e => e) HK.out.2.1
  have k2 := hf47.cell (fun e => e) HK.out.2.2
  clear hf67 hf47 hW7 hf6 hf5 ho5 ho4 hv6 he6 H4
  go_region_held3 (fun w' => w'.cell? ⟨bF, oF, none⟩ = some (.string ⟨#[97]⟩) ∧ w'.cell? ⟨bF, oF + 1, none⟩ = some (.slice Al 2 cl) ∧ w'.cell? ⟨bF, oF + 2, none⟩ = some (.slice Ap 1 cp))
    (first | go_keep | (go_split_ands; refine ⟨hf8.cell (fun e => e) (by assumption), hf8.cell (fun e => e) (by assumption), hf8.cell (fun e => e) (by assumption)⟩))
    (first | (go_at_call 13; refine (leg_any (x := kFile) (y := kFile) (H7.out.2.2.2.1.fr (Fr.drew No _)) (H7.out.2.2.2.1.fr (Fr.drew No _)) (by decide)).mono ?_; rw [evL.1, evL.2]; rintro e w8 ⟨v8, rfl, ho8, hf8⟩; obtain ⟨A8, c8, rfl, _⟩ := own_form ho8))
  have hf78 := hf8.undrew
  have H8 := Lib.hid (And.intro (H7.out.1.fr hf78) (And.intro (H7.out.2.1.trans hf78) (And.intro (H7.out.2.2.1.fr hf78) (And.intro (H7.out.2.2.2.1.fr hf78) (And.intro (own_fr H7.out.2.2.2.2 hf78 (fun _ _ e => e)) ho8)))))
  have l0 := hf78.cell (fun e => e) k0
  have l1 := hf78.cell (fun e => e) k1
  have l2 := hf78.cell (fun e => e) k2
  clear hf78 hf8 ho8 H7 k0 k1 k2
  obtain ⟨gl, ol, xl, rfl, hxl, _, _, _, m3⟩ := at_ln H8.out.2.2.2.1.1 0 (by decide)
  have hdd : xl.dead = true := by
    have : kFile.lines[0]? = some ⟨⟨1, 0⟩, ⟨#[120, 10]⟩, true⟩ := rfl
    rw [this] at hxl
    have := Option.some.inj hxl
    rw [← this]
  rw [hdd] at m3
  have n3 : w8.cell? ⟨gl, ol + 3, none⟩ = some (.bool true) := by simpa using m3
  obtain ⟨g5, o5, x5, rfl, hx5, i5⟩ := at_int (OwnI.sl (xs := [1]) H8.out.2.2.2.2.1) 0 (by decide)
  obtain rfl : (1 : Int) = x5 := by simpa using hx5
  have j5 : w8.cell? ⟨g5, o5, none⟩ = some (.int .i64 1) := by simpa using i5
  obtain ⟨g8, o8, x8, rfl, hx8, i8⟩ := at_int (OwnI.sl (xs := [0, 1]) H8.out.2.2.2.2.2) 1 (by decide)
  obtain rfl : (1 : Int) = x8 := by simpa using hx8
  clear m3 hxl hx5 hx8 i5 hdd
  go_wp2_with (first
    | (go_at_call 25; refine (count_any (l := [kFile]) H8.out.2.2.1 (by rw [evN]; decide)).mono ?_; rw [evN]; rintro e w9 ⟨rfl, hf9⟩
       have p0 : w9.cell? ⟨w.heap.size + 1 + 1 + 1 + 1, 0, none⟩ = some (.int .u32 1) := cell_of_heap ((H8.out.1.fr hf9) 4 _ rfl) 0
       have p1 : w9.cell? ⟨w.heap.size + 1 + 1 + 1 + 1, 1, none⟩ = some (.slice none 0 0) := cell_of_heap ((H8.out.1.fr hf9) 4 _ rfl) 1
       have p2 : w9.cell? ⟨w.heap.size + 1 + 1 + 1 + 1, 2, none⟩ = some (.slice (some ⟨w.heap.size, 0, none⟩) 1 1) := cell_of_heap ((H8.out.1.fr hf9) 4 _ rfl) 2
       have p3 : w9.cell? ⟨w.heap.size + 1 + 1 + 1 + 1, 3, none⟩ = some (.slice none 0 0) := cell_of_heap ((H8.out.1.fr hf9) 4 _ rfl) 3
       have p4 : w9.cell? ⟨w.heap.size + 1 + 1 + 1 + 1, 4, none⟩ = some (.slice (some ⟨w.heap.size + 1 + 1 + 1, 0, none⟩) 1 1) := cell_of_heap ((H8.out.1.fr hf9) 4 _ rfl) 4)
    | (go_at_call 18; refine stopAt ?_))
  refine Hid.go (namedC (fun W10 hW10 => ?_))
  have hf910 : Fr No w9 W10 := by rw [hW10]; exact Fr.alloc _ _ _
  have hsl10 : SlIs rPt W10 (.slice (some ⟨w9.heap.size, 0, none⟩) 1 1) [pPt] := sl_pt [pVals w.heap.size] (by rw [hW10]; exact heap_last _ _) rfl rfl (by simp [maxLen]) (fun z hz => by
    rw [List.mem_singleton.1 hz]
    exact (H8.out.1.fr (hf9.trans hf910)).p)
  clear hW10 p0 p1 p2 p3 p4 n3 j5 i8
  have hcl : Calls Tryz.prog 18 #[.slice (some ⟨w9.heap.size, 0, none⟩) 1 1] W10 fun e w' => e = .returned (.bool true) ∧ Fr No W10 w' := by
    have := closed_any (l := [pPt]) hsl10
    rw [evC] at this
    exact this
  refine hcl.mono ?_
  rintro e W11 ⟨rfl, hf11⟩
  have hfx := (hf9.trans hf910).trans hf11
  have r0 := hfx.cell (fun e => e) l0
  have r1 := hfx.cell (fun e => e) l1
  have r2 := hfx.cell (fun e => e) l2
  have HX := Lib.hid (And.intro hfx (H8.out.2.2.2.1.fr hfx))
  clear hsl10 hf910 hf9 hf11 hfx l0 l1 l2
  go_wp2_with (go_at_call 15; refine stopAt ?_)
  refine Hid.go ((obj_any (x := kFile) HX.out.2 (by decide) (by decide)).mono ?_)
  rintro e W12 ⟨v1, v2, rfl, ho1, ho2, hf12⟩
  obtain ⟨A1, c1, rfl, _⟩ := own_form ho1
  obtain ⟨A2', c2', rfl, _⟩ := own_form ho2
  have HY := Lib.hid (And.intro hf12 (And.intro ho1 ho2))
  clear hf12 ho1 ho2 r0 r1 r2
  have hfo := field_obj
  go_wp2
  go_ret
  exact ⟨rfl, (H8.out.2.1.trans HX.out.1).trans HY.out.1⟩
end Go.Proofs.YthnfkjcndidoaaaGreatDoor
