import Derived.Test.YthnfkjcndidoaaaGreatDoorCPatch
set_option linter.unusedVariables false
set_option linter.unusedSimpArgs false
namespace Go.Proofs.YthnfkjcndidoaaaGreatDoor
open Go.RowKit Go.Shelf

theorem take_byte (s : ByteArray) (k : Nat) (h : k < s.size) : s.data.toList.take (k + 1) = s.data.toList.take k ++ [s[k]] := by
  rw [List.take_succ_eq_append_getElem (by simpa using h)]; rfl
/-- A byte that may stand in a path. -/
def pathByte (c : UInt8) : Bool := decide ((97 ≤ c.toNat ∧ c.toNat ≤ 122) ∨ (48 ≤ c.toNat ∧ c.toNat ≤ 57) ∨ c.toNat = 46 ∨ c.toNat = 47)
def isPathB (s : ByteArray) : Bool := decide (0 < s.size) && (decide (s.size ≤ 20) && s.data.toList.all pathByte)
theorem all_bytes_false {s : ByteArray} {k : Nat} (h : k < s.size) {f : UInt8 → Bool} (hf : f s[k] = false) : s.data.toList.all f = false := by
  rw [List.all_eq_false]
  refine ⟨s[k], ?_, by simp [hf]⟩
  have := take_byte s k h
  have h2 : s[k] ∈ s.data.toList.take (k + 1) := by rw [this]; simp
  exact List.mem_of_mem_take h2
theorem all_bytes_succ {s : ByteArray} {k : Nat} (h : k < s.size) {f : UInt8 → Bool} (ha : (s.data.toList.take k).all f = true) (hf : f s[k] = true) : (s.data.toList.take (k + 1)).all f = true := by
  rw [take_byte s k h, List.all_append, ha]; simp [hf]
theorem all_bytes_all {s : ByteArray} {k : Nat} {f : UInt8 → Bool} (ha : (s.data.toList.take k).all f = true) (hk : s.size ≤ k) : s.data.toList.all f = true := by
  rwa [List.take_of_length_le (by simpa using hk)] at ha
theorem toList_nil {s : ByteArray} (h : s.size = 0) : s.toList = [] := by rw [ByteArray.toList_eq]; exact List.length_eq_zero_iff.1 (by simpa using h)
theorem toList_ne {s : ByteArray} (h : 0 < s.size) : ¬ s.toList = [] := fun e => by
  have : s.data.toList.length = 0 := by rw [← ByteArray.toList_eq, e]; rfl
  simp at this
  have h2 : s.size = s.data.size := rfl
  rw [h2, this] at h
  simp at h

set_option maxHeartbeats 1000000 in
theorem isPath_any (w : World) (s : ByteArray) : Calls Tryz.prog 89 #[.string s] w fun e w' => e = .returned (.bool (isPathB s)) ∧ w = w' := by
  by_cases h0 : s.size = 0
  · have h1 := toList_nil h0
    have hr := Lib.hid (show isPathB s = false by simp [isPathB, h0])
    clear h0
    go_enter Tryz.func89, Tryz.ntmps89
    go_wp2
    go_ret
    exact ⟨by rw [hr.out]; rfl, rfl⟩
  · have h1 := toList_ne (s := s) (by omega)
    have h1' : s.toList.isEmpty = false := by simpa using h1
    by_cases h2 : s.size ≤ 20
    · go_enter Tryz.func89, Tryz.ntmps89
      go_wp2
      go_loop [14] (fun i => ∃ k : Nat, i = .int .i64 k ∧ k ≤ s.size ∧ Hid ((s.data.toList.take k).all pathByte = true)) (fun i => s.size - (intOf i).toNat)
      case atStart => exact ⟨0, rfl, Nat.zero_le _, Lib.hid (by simp)⟩
      case round =>
        obtain ⟨k, rfl, hk, hall⟩ := hrel
        by_cases hlt : k < s.size
        · have hb := (s[k]).toNat_lt
          go_wp2
          all_goals first
            | (go_round
               case rel => exact ⟨k + 1, by go_num, by omega, Lib.hid (all_bytes_succ hlt hall.out (by simp only [pathByte, decide_eq_true_eq]; simp only [bne_iff_ne, ne_eq, beq_iff_eq, bne_eq_false_iff_eq, not_and, Decidable.not_not] at *; omega))⟩
               case measure => simp [intOf]; omega)
            | (go_ret
               refine ⟨?_, rfl⟩
               rw [isPathB, all_bytes_false hlt (f := pathByte) (by simp only [pathByte, decide_eq_false_iff_not]; simp only [bne_iff_ne, ne_eq, beq_iff_eq] at *; omega)]
               simp)
        · go_wp2
          go_ret
          refine ⟨?_, rfl⟩
          rw [isPathB, all_bytes_all hall.out (by omega)]
          simp [show 0 < s.size by omega, h2]
    · have hr := Lib.hid (show isPathB s = false by simp [isPathB, h2])
      go_enter Tryz.func89, Tryz.ntmps89
      go_wp2
      go_ret
      exact ⟨by rw [hr.out]; rfl, rfl⟩

def isLineB (s : ByteArray) : Bool := decide (0 < s.size) && (decide (s.size ≤ 60) && (s.data.toList.take (s.size - 1)).all (fun c => decide (c.toNat ≠ 10)))
set_option maxHeartbeats 1000000 in
theorem isLine_any (w : World) (s : ByteArray) : Calls Tryz.prog 127 #[.string s] w fun e w' => e = .returned (.bool (isLineB s)) ∧ w = w' := by
  by_cases h0 : s.size = 0
  · have h1 := toList_nil h0
    have hr := Lib.hid (show isLineB s = false by simp [isLineB, h0])
    clear h0
    go_enter Tryz.func127, Tryz.ntmps127
    go_wp2
    go_ret
    exact ⟨by rw [hr.out]; rfl, rfl⟩
  · have h1 := toList_ne (s := s) (by omega)
    have h1' : s.toList.isEmpty = false := by simpa using h1
    by_cases h2 : s.size ≤ 60
    · obtain ⟨m, hm⟩ : ∃ m, s.size = m + 1 := ⟨s.size - 1, by omega⟩
      have hm1 := Lib.hid hm
      have hs1 : (m : Int) < (s.size : Int) := by omega
      have hs2 : (s.size : Int) - 1 = m := by omega
      go_enter Tryz.func127, Tryz.ntmps127
      clear hm
      go_wp2
      clear hs2
      go_loop [14] (fun i => ∃ k : Nat, i = .int .i64 k ∧ k ≤ m ∧ Hid ((s.data.toList.take k).all (fun c => decide (c.toNat ≠ 10)) = true)) (fun i => s.size - (intOf i).toNat)
      case atStart => exact ⟨0, rfl, Nat.zero_le _, Lib.hid (by simp)⟩
      case round =>
        obtain ⟨k, rfl, hk, hall⟩ := hrel
        by_cases hlt : k < m
        · have hks : k < s.size := by omega
          have hb := (s[k]).toNat_lt
          by_cases h10 : (s[k]).toNat = 10
          · have HF := Lib.hid (show isLineB s = false by
              rw [isLineB]
              have : (s.data.toList.take (s.size - 1)).all (fun c => decide (c.toNat ≠ 10)) = false := by
                rw [List.all_eq_false]
                refine ⟨s[k], ?_, by simp [h10]⟩
                have h3 : s[k] ∈ s.data.toList.take (k + 1) := by rw [take_byte s k hks]; simp
                rw [show s.data.toList.take (k + 1) = (s.data.toList.take (s.size - 1)).take (k + 1) by rw [List.take_take, Nat.min_eq_left (by omega)]] at h3
                exact List.mem_of_mem_take h3
              rw [this, Bool.and_false, Bool.and_false])
            have ht : (((s[k]).toNat : Int) == 10) = true := by simp [h10]
            clear h10
            go_wp2
            go_ret
            exact ⟨by rw [HF.out]; rfl, rfl⟩
          · have ht : (((s[k]).toNat : Int) == 10) = false := by simp; omega
            have H10 := Lib.hid h10
            clear h10
            go_wp2
            go_round
            case rel => exact ⟨k + 1, by go_num, by omega, Lib.hid (all_bytes_succ hks hall.out (by simp [H10.out]))⟩
            case measure => simp [intOf]; omega
        · go_wp2
          go_ret
          refine ⟨?_, rfl⟩
          obtain rfl : k = m := by omega
          have := hm1.out
          rw [isLineB, show s.size - 1 = k by omega, hall.out]
          simp [show 0 < s.size by omega, h2]
    · have hr := Lib.hid (show isLineB s = false by simp [isLineB, h2])
      go_enter Tryz.func127, Tryz.ntmps127
      go_wp2
      go_ret
      exact ⟨by rw [hr.out]; rfl, rfl⟩
end Go.Proofs.YthnfkjcndidoaaaGreatDoor
