/- (*json.reader).number: four hexadecimal digits. -/
import Derived.Test.YtakgcaehkphepaaGreatDoorJj
namespace Go.Proofs.YtakgcaehkphepaaGreatDoor
open Go.RowKit
set_option linter.unusedVariables false
set_option linter.unusedSimpArgs false

def hex4 (s : Bs) : Option Nat := if 4 ≤ s.length then parse16 0 (s.take 4) else none
theorem parse16_lt : ∀ (l : Bs) (acc v : Nat), parse16 acc l = some v → v < (acc + 1) * 16 ^ l.length
  | [], acc, v, h => by simp [parse16] at h; simp; omega
  | c :: r, acc, v, h => by
    simp only [parse16] at h
    split at h
    · have := parse16_lt r _ v h
      have e : 16 ^ (c :: r).length = 16 * 16 ^ r.length := by simp [Nat.pow_succ, Nat.mul_comm]
      rw [e, ← Nat.mul_assoc]
      refine Nat.lt_of_lt_of_le this (Nat.mul_le_mul_right _ ?_)
      omega
    · cases h
theorem hex4_lt (s : Bs) (v : Nat) (h : hex4 s = some v) : v < 65536 := by
  unfold hex4 at h
  split at h
  · rename_i h4
    have := parse16_lt _ _ _ h
    rw [List.length_take, Nat.min_eq_left h4] at this
    simpa using this
  · cases h
theorem dg_pm (x : UInt8) (h : isPm x) : dg x = 16 := by
  rcases h with rfl | rfl | rfl <;> decide
theorem parse16_pm : ∀ (l : Bs) (acc : Nat), (∃ x ∈ l, isPm x) → parse16 acc l = none
  | [], _, h => by obtain ⟨x, hx, _⟩ := h; simp at hx
  | c :: r, acc, h => by
    obtain ⟨x, hx, hp⟩ := h
    rcases List.mem_cons.1 hx with rfl | hx
    · simp [parse16, dg_pm x hp]
    · simp only [parse16]
      rw [parse16_pm r _ ⟨x, hx, hp⟩]
      simp

set_option maxHeartbeats 1000000 in
set_option maxRecDepth 100000 in
theorem number_short (p : Value) (b : Nat) (s : Bs) (n : Int) (o : Option Int) (w : World) (h : RS p w b s n o) (hs : s.length < 4) :
    Calls Tryz.prog 142 #[.pointer (some ⟨b, 0, none⟩)] w fun e w' => e = .returned (.tuple #[.int .i32 0, .bool false]) ∧ w' = w := by
  have h0 := h.rd.c0
  have hb : (bs s).size < 4 := by rw [bs_size]; exact hs
  clear h
  go_enter Tryz.func142, Tryz.ntmps142
  go_wp2
  go_ret2
  exact ⟨rfl, rfl⟩

set_option maxHeartbeats 1000000 in
set_option maxRecDepth 100000 in
theorem number_no (p : Value) (b : Nat) (s : Bs) (n : Int) (o : Option Int) (w : World) (h : RS p w b s n o) (hs : 4 ≤ s.length) (hx : parse16 0 (s.take 4) = none) :
    Calls Tryz.prog 142 #[.pointer (some ⟨b, 0, none⟩)] w fun e w' => e = .returned (.tuple #[.int .i32 0, .bool false]) ∧ Fr none' w w' := by
  have h0 := h.rd.c0
  have hb : 4 ≤ (bs s).size := by rw [bs_size]; exact hs
  have hb2 : (bs s).extract 0 4 = bs (s.take 4) := by rw [bs_extract]; rfl
  have h4 : (s.take 4).length = 4 := by rw [List.length_take]; omega
  have H4 := Lib.hid h4
  have HX := Lib.hid hx
  have H := Lib.hid h
  clear h h4 hx
  go_enter Tryz.func142, Tryz.ntmps142
  go_wp2_with (first
    | (go_at_call 154; refine (containsAny_pm _ (by rw [H4.out]; omega) _).mono ?_; rintro e w1 ⟨⟨v, rfl, hv⟩, f1⟩; have F1 := Lib.hid f1; have R1 := Lib.hid (H.out.fr0 f1); have c1 := R1.out.rd.c0; clear f1 hv)
    | (go_at_call 155; refine (parseUint16_no _ (by intro e; have := H4.out; rw [e] at this; simp at this) (by rw [H4.out]; omega) HX.out _ R1.out.gl.sy).mono ?_; rintro e w2 ⟨⟨N, rfl⟩, f2⟩; have F2 := Lib.hid f2; clear f2))
  · go_ret2
    exact ⟨rfl, F1.out⟩
  · go_ret2
    exact ⟨rfl, F1.out.trans F2.out⟩

theorem containsAny_no (s : Bs) (h8 : s.length ≤ 8) (v : Nat) (hv : parse16 0 s = some v) (w : World) :
    Calls Tryz.prog 154 #[.string (bs s), .string ⟨#[43, 45, 95]⟩] w fun e w' => e = .returned (.bool false) ∧ Fr none' w w' := by
  refine (containsAny_pm s h8 w).mono ?_
  rintro e w' ⟨⟨b, rfl, hb⟩, f⟩
  cases b with
  | false => exact ⟨rfl, f⟩
  | true =>
    have := parse16_pm s 0 (hb rfl)
    rw [hv] at this
    cases this

set_option maxHeartbeats 1000000 in
set_option maxRecDepth 100000 in
theorem number_yes (p : Value) (b : Nat) (s : Bs) (n : Int) (o : Option Int) (w : World) (h : RS p w b s n o) (hs : 4 ≤ s.length) (v : Nat) (hx : parse16 0 (s.take 4) = some v) (hv : v < 65536) :
    Calls Tryz.prog 142 #[.pointer (some ⟨b, 0, none⟩)] w fun e w' => e = .returned (.tuple #[.int .i32 v, .bool true]) ∧ RS p w' b (s.drop 4) n o ∧ Fr (· = b) w w' := by
  have h0 := h.rd.c0
  have hb : 4 ≤ (bs s).size := by rw [bs_size]; exact hs
  have hb2 : (bs s).extract 0 4 = bs (s.take 4) := by rw [bs_extract]; rfl
  have hb3 : (bs s).extract 4 (bs s).size = bs (s.drop 4) := by rw [bs_extract, bs_size, List.take_length]
  have h4 : (s.take 4).length = 4 := by rw [List.length_take]; omega
  have H4 := Lib.hid h4
  have HX := Lib.hid hx
  have H := Lib.hid h
  clear h h4 hx
  go_enter Tryz.func142, Tryz.ntmps142
  go_wp2_with (first
    | (go_at_call 154; refine (containsAny_no _ (by rw [H4.out]; omega) v HX.out _).mono ?_; rintro e w1 ⟨rfl, f1⟩; have F1 := Lib.hid f1; have R1 := Lib.hid (H.out.fr0 f1); have c1 := R1.out.rd.c0; clear f1)
    | (go_at_call 155; refine (parseUint16_ok _ (by intro e; have := H4.out; rw [e] at this; simp at this) (by rw [H4.out]; omega) v HX.out _).mono ?_; rintro e w2 ⟨rfl, f2⟩; have F2 := Lib.hid f2; have R2 := Lib.hid (R1.out.fr0 f2); have c2 := R2.out.rd.c0; have f2' := R2.out.rd.fz 0; clear f2))
  go_ret2
  exact ⟨rfl, R2.out.next (R2.out.rd.set0 _) (Fr.set' b 0 _ rfl), ((F1.out.trans F2.out).mono (fun _ h => h.elim)).trans (Fr.set' b 0 _ rfl)⟩

def numV : Option Nat → Value
  | some v => .tuple #[.int .i32 v, .bool true]
  | none => .tuple #[.int .i32 0, .bool false]
theorem number_r (p : Value) (b : Nat) (s : Bs) (n : Int) (o : Option Int) (w : World) (h : RS p w b s n o) :
    Calls Tryz.prog 142 #[.pointer (some ⟨b, 0, none⟩)] w fun e w' => e = .returned (numV (hex4 s)) ∧ RS p w' b (if (hex4 s).isSome then s.drop 4 else s) n o ∧ Fr (· = b) w w' := by
  by_cases hs : 4 ≤ s.length
  · have e : hex4 s = parse16 0 (s.take 4) := by unfold hex4; rw [if_pos hs]
    cases hx : parse16 0 (s.take 4) with
    | none =>
      rw [e, hx]
      refine (number_no p b s n o w h hs hx).mono ?_
      rintro e w' ⟨rfl, f⟩
      exact ⟨rfl, h.fr0 f, f.mono (fun _ h => h.elim)⟩
    | some v =>
      have hv := hex4_lt s v (e.trans hx)
      rw [e, hx]
      exact number_yes p b s n o w h hs v hx hv
  · have e : hex4 s = none := by unfold hex4; rw [if_neg hs]
    rw [e]
    refine (number_short p b s n o w h (by omega)).mono ?_
    rintro e w' ⟨rfl, rfl⟩
    exact ⟨rfl, h, Fr.refl _ _⟩
end Go.Proofs.YtakgcaehkphepaaGreatDoor
