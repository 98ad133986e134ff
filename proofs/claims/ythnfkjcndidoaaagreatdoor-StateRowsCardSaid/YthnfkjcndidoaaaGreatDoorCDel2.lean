import Derived.Test.YthnfkjcndidoaaaGreatDoorCDel
set_option linter.unusedVariables false
set_option linter.unusedSimpArgs false
namespace Go.Proofs.YthnfkjcndidoaaaGreatDoor
open Go.RowKit Go.Shelf Go.Sort Go.Lib
theorem compact_mem (d : Array Nat) : ∀ m, m ≤ d.size → ∀ x, x ∈ compactUpTo d m ↔ ∃ j, j < m ∧ d[j]! = x
  | 0, _, x => by simp [compactUpTo]
  | m + 1, hm, x => by
    rw [compactUpTo_succ, List.mem_append, compact_mem d m (by omega) x]
    constructor
    · rintro (⟨j, hj, h⟩ | h)
      · exact ⟨j, by omega, h⟩
      · split at h
        · simp only [List.mem_singleton] at h
          exact ⟨m, by omega, h.symm⟩
        · simp at h
    · rintro ⟨j, hj, h⟩
      by_cases hjm : j < m
      · exact .inl ⟨j, hjm, h⟩
      · obtain rfl : j = m := by omega
        by_cases hk : keeps d j
        · exact .inr (by rw [if_pos hk]; simp [h])
        · refine .inl ?_
          simp only [keeps, Bool.or_eq_true, decide_eq_true_eq, not_or, Decidable.not_not, bne_iff_ne, ne_eq, beq_iff_eq] at hk
          exact ⟨j - 1, by omega, by rw [← h]; simp_all⟩
theorem compact_rises (d : Array Nat) (hs : ∀ i j, i < j → j < d.size → d[i]! ≤ d[j]!) : ∀ m, m ≤ d.size → (compactUpTo d m).Pairwise (· < ·)
  | 0, _ => by simp [compactUpTo]
  | m + 1, hm => by
    rw [compactUpTo_succ, List.pairwise_append]
    refine ⟨compact_rises d hs m (by omega), by split <;> simp, fun x hx y hy => ?_⟩
    split at hy
    · rename_i hk
      simp only [List.mem_singleton] at hy
      subst hy
      obtain ⟨j, hj, rfl⟩ := (compact_mem d m (by omega) x).1 hx
      simp only [keeps, Bool.or_eq_true, decide_eq_true_eq, bne_iff_ne, ne_eq, beq_iff_eq] at hk
      have h1 : d[m - 1]! ≤ d[m]! := hs (m - 1) m (by omega) (by omega)
      have h2 : d[j]! ≤ d[m - 1]! := by
        by_cases e : j = m - 1
        · subst e; exact Nat.le_refl _
        · exact hs j (m - 1) (by omega) (by omega)
      rcases hk with hk | hk
      · omega
      · have : d[m]! ≠ d[m - 1]! := by simpa using hk
        omega
    · simp at hy
theorem eqlU : EqlAt Tryz.prog 43 encU (fun x y => decide (x = y)) := ⟨fun x y w => by simp only []; rw [← nat_eq]; exact (EqlAt.int Tryz.prog 43 .u32).1 x y w, fun op a b x y w => (EqlAt.int Tryz.prog 43 .u32).2 op a b x y w⟩
theorem neqU : NeqAt Tryz.prog 43 encU (fun x y => decide (x = y)) := ⟨fun x y w => by simp only []; rw [← nat_eq]; exact (NeqAt.int Tryz.prog 43 .u32).1 x y w, fun op a b x y w => (NeqAt.int Tryz.prog 43 .u32).2 op a b x y w⟩
theorem compactOwn {w : World} {base : Nat} {v : Value} {xs : List Nat} (h : OwnU w base v xs) (hs : xs.Pairwise (· ≤ ·)) :
    Calls Tryz.prog 156 #[v] w fun e w' => ∃ v' ys, e = .returned v' ∧ OwnU w' base v' ys ∧ ys.Pairwise (· < ·) ∧ (∀ x, x ∈ ys ↔ x ∈ xs) ∧ Fr (OwnO v) w w' ∧ (∀ i, OwnO v' i → OwnO v i) := by
  rcases h.cases with ⟨rfl, rfl⟩ | ⟨g, cap, cur, rfl, hbg, hg, hh, h1, h2, h3, h4⟩
  · clear h hs
    go_enter Tryz.func156, Tryz.ntmps156
    go_wp2
    go_ret
    exact ⟨_, [], rfl, World.ownsRow_nil _ _ _ _, List.Pairwise.nil, fun x => Iff.rfl, Fr.refl _ _, fun i h => h⟩
  · have hsz : xs.toArray.size = xs.length := by simp
    have hcon := AnyE.slices_Compact Tryz.lCompact encU (fun _ => rfl) eqlU neqU 0 Tryz.zeroValue43 g 0 cap xs.toArray w (own_holds hh h4) (by simp [maxLen] at h2 ⊢; omega) (by simp; omega)
    rw [hsz] at hcon
    refine Calls.mono (show Calls Tryz.prog 156 _ _ _ from hcon) ?_
    rintro e w' ⟨rfl, q, rfl⟩
    have hl : (compactUpTo xs.toArray xs.length).length ≤ xs.length := by
      unfold compactUpTo
      rw [List.length_map]
      exact Nat.le_trans (List.length_filter_le _ _) (by simp)
    have hge : ∀ i j, i < j → j < xs.toArray.size → xs.toArray[i]! ≤ xs.toArray[j]! := fun i j hij hj => by
      rw [List.pairwise_iff_getElem] at hs
      have hj' : j < xs.length := by simpa using hj
      rw [getElem!_pos _ i (by simp; omega), getElem!_pos _ j hj]
      simpa using hs i j (by omega) hj' hij
    refine ⟨_, compactUpTo xs.toArray xs.length, rfl, ?_, compact_rises _ hge _ (by simp), fun x => ?_, (fr_putRow w g 0 q _).mono (fun i _ e => ownO_slice.2 (show g = i from (show i = g from e).symm)), fun i hi => ownO_slice.2 (ownO_slice.1 hi)⟩
    · have := own_put (w := putRow encU (Sort.ahead w q) g 0 (compactUpTo xs.toArray xs.length ++ List.replicate (xs.length - (compactUpTo xs.toArray xs.length).length) 0).toArray) (g := g) (base := base) (cap := cap) (cur := cur)
        (d := (compactUpTo xs.toArray xs.length ++ List.replicate (xs.length - (compactUpTo xs.toArray xs.length).length) 0).toArray) (n := (compactUpTo xs.toArray xs.length).length) (putRow_heap (w := Sort.ahead w q) hh) hbg h2 h3 (by simp; omega) (by simp)
      simpa using this
    · rw [compact_mem _ _ (by simp) x]
      constructor
      · rintro ⟨j, hj, rfl⟩
        rw [getElem!_pos _ j (by simpa using hj)]
        simp
      · intro hx
        obtain ⟨j, hj, rfl⟩ := List.getElem_of_mem hx
        exact ⟨j, hj, by rw [getElem!_pos _ j (by simpa using hj)]; simp⟩
end Go.Proofs.YthnfkjcndidoaaaGreatDoor
