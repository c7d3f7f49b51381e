/- strconv.ParseUint at base 16; strings.IndexRune, IndexAny, ContainsAny at "+-_"; (*json.reader).number. -/
import Derived.Test.YtakgcaehkphepaaGreatDoorJg
namespace Go.Proofs.YtakgcaehkphepaaGreatDoor
open Go.RowKit
set_option linter.unusedVariables false
set_option linter.unusedSimpArgs false

theorem bytesWorld_fr (w : World) (e : TypeId) (t : ByteArray) : Fr none' w (Lib.bytesWorld w e t) := Fr.of_below (Lib.bytesWorld_below w e t) _

set_option maxHeartbeats 1000000 in
set_option maxRecDepth 100000 in
theorem parseUint16_ok (s : Bs) (hne : s ≠ []) (h4 : s.length ≤ 4) (n : Nat) (hn : parse16 0 s = some n) (w : World) :
    Calls Tryz.prog 155 #[.string (bs s), .int .i64 16, .int .i64 64] w fun e w' => e = .returned (.tuple #[.int .u64 n, .nilIface]) ∧ Fr none' w w' := by
  have HN := Lib.hid hn
  clear hn
  go_enter Tryz.func155, Tryz.ntmps155
  go_wp2_with (go_at_call 125; refine (parseUint16_i s hne h4 _).mono ?_; rintro e w1 ⟨rfl, hw1⟩; have F1 := Lib.hid (show Fr none' w w1 from hw1 ▸ bytesWorld_fr _ _ _); clear hw1; rw [HN.out]; unfold uint16R)
  go_ret2
  exact ⟨rfl, F1.out⟩

set_option maxHeartbeats 1000000 in
set_option maxRecDepth 100000 in
theorem toError_syntax (fn s : ByteArray) (a b : Int) (w : World) (hlim : s.size ≤ 281474976710656) (hv : ∃ t q, w.cell? ⟨5, 0, none⟩ = some (.iface t q)) :
    Calls Tryz.prog 104 #[.string fn, .string s, .int .i64 a, .int .i64 b, .iface 166 (.int .i64 2)] w fun e w' => (∃ N, e = .returned (.iface 169 (.pointer (some ⟨N, 0, none⟩)))) ∧ Fr none' w w' := by
  obtain ⟨t, q, hq⟩ := hv
  refine (Tryz.strconv_toError_syntax fn s a b _ w hlim hq (.inr ⟨t, q, rfl⟩)).mono ?_
  rintro e w1 ⟨N, rfl, hN, hb1, hB⟩
  exact ⟨⟨N, rfl⟩, Fr.of_below hB _⟩

set_option maxHeartbeats 1000000 in
set_option maxRecDepth 100000 in
theorem parseUint16_no (s : Bs) (hne : s ≠ []) (h4 : s.length ≤ 4) (hn : parse16 0 s = none) (w : World) (hv : ∃ t q, w.cell? ⟨5, 0, none⟩ = some (.iface t q)) :
    Calls Tryz.prog 155 #[.string (bs s), .int .i64 16, .int .i64 64] w fun e w' => (∃ N, e = .returned (.tuple #[.int .u64 0, .iface 169 (.pointer (some ⟨N, 0, none⟩))])) ∧ Fr none' w w' := by
  have HN := Lib.hid hn
  have HV := Lib.hid hv
  clear hn hv
  go_enter Tryz.func155, Tryz.ntmps155
  go_wp2_with (first | (go_at_call 125; refine (parseUint16_i s hne h4 _).mono ?_; rintro e w1 ⟨rfl, hw1⟩; have F1 := Lib.hid (show Fr none' w w1 from hw1 ▸ bytesWorld_fr _ _ _); have V1 := Lib.hid (show ∃ t q, w1.cell? ⟨5, 0, none⟩ = some (.iface t q) from HV.out.elim fun t h => h.elim fun q h => ⟨t, q, F1.out.cell h id⟩); clear hw1; rw [HN.out]; unfold uint16R) | (go_at_call 104; refine (toError_syntax _ _ _ _ _ (by rw [bs_size]; omega) V1.out).mono ?_; rintro e w2 ⟨⟨N, rfl⟩, f2⟩; have F2 := Lib.hid f2; clear f2))
  go_ret2
  exact ⟨⟨_, rfl⟩, F1.out.trans F2.out⟩

/-! ### IndexRune at "+-_" -/
theorem ixByte_none (l : Bs) (c : UInt8) (h : ∀ x ∈ l, x ≠ c) : Lib.indexByte l c = -1 := by
  induction l with
  | nil => rfl
  | cons b l ih =>
    have hb : (b == c) = false := beq_eq_false_iff_ne.2 (h b (by simp))
    have := ih (fun x hx => h x (by simp [hx]))
    simp [Lib.indexByte, hb, this]
theorem pm_get : (⟨#[43, 45, 95]⟩ : ByteArray).size = 3 := rfl
set_option maxHeartbeats 1000000 in
set_option maxRecDepth 100000 in
theorem indexRune_err (w : World) :
    Calls Tryz.prog 120 #[.string ⟨#[43, 45, 95]⟩, .int .i32 65533] w fun e w' => e = .returned (.int .i64 (-1)) ∧ Fr none' w w' := by
  obtain ⟨t, ht⟩ : ∃ t : ByteArray, t = ⟨#[43, 45, 95]⟩ := ⟨_, rfl⟩
  have hts : t.size = 3 := by rw [ht]; rfl
  have hasc : ∀ i (h : i < t.size), (t[i]'h).toNat < 128 := by
    subst ht
    intro i h
    match i, h with
    | 0, _ => show (43 : UInt8).toNat < 128; decide
    | 1, _ => show (45 : UInt8).toNat < 128; decide
    | 2, _ => show (95 : UInt8).toNat < 128; decide
  rw [← ht]
  have HS := Lib.hid hts
  have HA := Lib.hid hasc
  clear ht hts hasc
  go_enter Tryz.func120, Tryz.ntmps120
  go_wp2
  go_loopg [5, 6] t.size (fun g _ _ wx => ∃ i : Nat, i + g = t.size ∧ wx = w.iter t i)
  case atStart => exact ⟨0, by omega, rfl⟩
  case round =>
    obtain ⟨i, hig, rfl⟩ := hrel
    cases gk with
    | zero =>
      obtain rfl : i = t.size := by omega
      have hnx := run_next_end (P := Tryz.prog) w t t.size
      go_wp2
      go_ret
      exact ⟨rfl, (Fr.refl _ _).alloc _⟩
    | succ g =>
      have hi : i < t.size := by omega
      have h128 := HA.out i hi
      obtain ⟨x, hx⟩ : ∃ x : UInt8, t[i]'hi = x := ⟨_, rfl⟩
      have hnx := fun ty => run_next_ascii (P := Tryz.prog) w t i ty hi h128
      rw [hx] at hnx h128
      clear hx
      have hne : ((x.toNat : Int) == 65533) = false := beq_eq_false_iff_ne.2 (by omega)
      go_wp2
      go_roundg g
      case measure => omega
      case rel => exact ⟨i + 1, by omega, rfl⟩
end Go.Proofs.YtakgcaehkphepaaGreatDoor
