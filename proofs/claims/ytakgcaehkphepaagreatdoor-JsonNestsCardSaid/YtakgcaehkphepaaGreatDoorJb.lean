/- The reader's small steps: prefixes, the first byte, taking a word, what is wrong. -/
import Derived.Test.YtakgcaehkphepaaGreatDoorJa
namespace Go.Proofs.YtakgcaehkphepaaGreatDoor
open Go.RowKit
set_option linter.unusedVariables false
set_option linter.unusedSimpArgs false

theorem ret_bool {a b : Bool} (h : a = b) : Ending.returned (.bool a) = .returned (.bool b) := by rw [h]
theorem ret_int {k : IntKind} {a b : Int} (h : a = b) : Ending.returned (.int k a) = .returned (.int k b) := by rw [h]
theorem ret_str {a b : ByteArray} (h : a = b) : Ending.returned (.string a) = .returned (.string b) := by rw [h]
theorem ret_str_bool {a b : ByteArray} {c d : Bool} (h : a = b) (k : c = d) : Ending.returned (.tuple #[.string a, .bool c]) = .returned (.tuple #[.string b, .bool d]) := by rw [h, k]
theorem isPrefix_take (p s : Bs) (h : p.length ≤ s.length) : (s.take p.length == p) = p.isPrefixOf s := by
  rw [Bool.eq_iff_iff, beq_iff_eq, List.isPrefixOf_iff_prefix, List.prefix_iff_eq_take, eq_comm]
theorem isPrefix_short (p s : Bs) (h : ¬ p.length ≤ s.length) : p.isPrefixOf s = false := by
  rw [Bool.eq_false_iff]
  intro h'
  exact h (List.IsPrefix.length_le (List.isPrefixOf_iff_prefix.1 h'))

set_option maxHeartbeats 400000 in
theorem hasPrefix_c (s p : Bs) (w : World) :
    Calls Tryz.prog 124 #[.string (bs s), .string (bs p)] w fun e w' => e = .returned (.bool (p.isPrefixOf s)) ∧ w' = w := by
  go_enter Tryz.func124, Tryz.ntmps124
  go_wp2
  · rename_i h
    rw [bs_size, bs_size] at h
    go_ret
    exact ⟨ret_bool (by simp only [bs_size, bs_extract, bs_toList, List.drop_zero, isPrefix_take p s h]), rfl⟩
  · rename_i h
    rw [bs_size, bs_size] at h
    go_ret
    exact ⟨ret_bool (isPrefix_short p s h).symm, rfl⟩

def cutPre (s p : Bs) : Bs := if p.isPrefixOf s then s.drop p.length else s
theorem cutPre_yes {s p : Bs} (h : p.isPrefixOf s = true) : cutPre s p = s.drop p.length := by simp [cutPre, h]
theorem cutPre_no {s p : Bs} (h : p.isPrefixOf s = false) : cutPre s p = s := by simp [cutPre, h]
theorem pre_len {s p : Bs} (h : p.isPrefixOf s = true) : p.length ≤ s.length := List.IsPrefix.length_le (List.isPrefixOf_iff_prefix.1 h)

set_option maxHeartbeats 400000 in
theorem cutPrefixLite_c (s p : Bs) (w : World) :
    Calls Tryz.prog 123 #[.string (bs s), .string (bs p)] w fun e w' => e = .returned (.tuple #[.string (bs (cutPre s p)), .bool (p.isPrefixOf s)]) ∧ w' = w := by
  cases hp : p.isPrefixOf s with
  | true =>
    have hl := pre_len hp
    rw [← bs_size, ← bs_size] at hl
    have HP := Lib.hid hp
    clear hp
    go_enter Tryz.func123, Tryz.ntmps123
    go_wp2_with (go_at_call 124; refine (hasPrefix_c _ _ _).mono ?_; rintro e w' ⟨rfl, rfl⟩; rw [HP.out])
    go_ret2
    exact ⟨ret_str_bool (by rw [cutPre_yes HP.out]; simp [bs_size, bs_extract]) rfl, rfl⟩
  | false =>
    have HP := Lib.hid hp
    clear hp
    go_enter Tryz.func123, Tryz.ntmps123
    go_wp2_with (go_at_call 124; refine (hasPrefix_c _ _ _).mono ?_; rintro e w' ⟨rfl, rfl⟩; rw [HP.out])
    go_ret2
    exact ⟨ret_str_bool (by rw [cutPre_no HP.out]) rfl, rfl⟩

set_option maxHeartbeats 400000 in
theorem cutPrefix_c (s p : Bs) (w : World) :
    Calls Tryz.prog 101 #[.string (bs s), .string (bs p)] w fun e w' => e = .returned (.tuple #[.string (bs (cutPre s p)), .bool (p.isPrefixOf s)]) ∧ w' = w := by
  go_enter Tryz.func101, Tryz.ntmps101
  go_wp2_with (go_at_call 123; refine (cutPrefixLite_c _ _ _).mono ?_; rintro e w' ⟨rfl, rfl⟩)
  go_ret2
  exact ⟨rfl, rfl⟩

set_option maxHeartbeats 400000 in
theorem trimPrefixLite_c (s p : Bs) (w : World) :
    Calls Tryz.prog 102 #[.string (bs s), .string (bs p)] w fun e w' => e = .returned (.string (bs (cutPre s p))) ∧ w' = w := by
  cases hp : p.isPrefixOf s with
  | true =>
    have hl := pre_len hp
    rw [← bs_size, ← bs_size] at hl
    have HP := Lib.hid hp
    clear hp
    go_enter Tryz.func102, Tryz.ntmps102
    go_wp2_with (go_at_call 124; refine (hasPrefix_c _ _ _).mono ?_; rintro e w' ⟨rfl, rfl⟩; rw [HP.out])
    go_ret
    exact ⟨ret_str (by rw [cutPre_yes HP.out]; simp [bs_size, bs_extract]), rfl⟩
  | false =>
    have HP := Lib.hid hp
    clear hp
    go_enter Tryz.func102, Tryz.ntmps102
    go_wp2_with (go_at_call 124; refine (hasPrefix_c _ _ _).mono ?_; rintro e w' ⟨rfl, rfl⟩; rw [HP.out])
    go_ret
    exact ⟨ret_str (by rw [cutPre_no HP.out]), rfl⟩

set_option maxHeartbeats 400000 in
theorem trimPrefix_c (s p : Bs) (w : World) :
    Calls Tryz.prog 79 #[.string (bs s), .string (bs p)] w fun e w' => e = .returned (.string (bs (cutPre s p))) ∧ w' = w := by
  go_enter Tryz.func79, Tryz.ntmps79
  go_wp2_with (go_at_call 102; refine (trimPrefixLite_c _ _ _).mono ?_; rintro e w' ⟨rfl, rfl⟩)
  go_ret
  exact ⟨rfl, rfl⟩

/-- The first byte; 0: there is none. -/
def first (s : Bs) : Int := match s with | [] => 0 | c :: _ => (c.toNat : Int)
set_option maxHeartbeats 400000 in
theorem first_c (b : Nat) (s : Bs) (n : Int) (ev : Value) (w : World) (h : Rd w b s n ev) :
    Calls Tryz.prog 49 #[.pointer (some ⟨b, 0, none⟩)] w fun e w' => e = .returned (.int .u8 (first s)) ∧ w' = w := by
  have h0 := h.c0
  clear h
  cases s with
  | nil =>
    have he : (bs []).toList.isEmpty = true := by rw [bs_toList]; rfl
    go_enter Tryz.func49, Tryz.ntmps49
    go_wp2
    go_ret
    exact ⟨rfl, rfl⟩
  | cons c l =>
    have he : (bs (c :: l)).toList.isEmpty = false := by rw [bs_toList]; rfl
    have hz : 0 < (bs (c :: l)).size := by rw [bs_size]; simp
    go_enter Tryz.func49, Tryz.ntmps49
    go_wp2
    go_ret
    exact ⟨ret_int rfl, rfl⟩

set_option maxHeartbeats 400000 in
theorem take_c (b : Nat) (s p : Bs) (n : Int) (ev : Value) (w : World) (h : Rd w b s n ev) :
    Calls Tryz.prog 78 #[.pointer (some ⟨b, 0, none⟩), .string (bs p)] w fun e w' => e = .returned (.bool (p.isPrefixOf s)) ∧ Rd w' b (cutPre s p) n ev ∧ Fr (· = b) w w' := by
  have h0 := h.c0
  have f0 := h.fz 0
  have H := Lib.hid h
  clear h
  go_enter Tryz.func78, Tryz.ntmps78
  go_wp2_with (go_at_call 101; refine (cutPrefix_c _ _ _).mono ?_; rintro e w' ⟨rfl, rfl⟩)
  go_ret
  exact ⟨rfl, H.out.set0 _, Fr.set' b 0 _ rfl⟩
end Go.Proofs.YtakgcaehkphepaaGreatDoor
