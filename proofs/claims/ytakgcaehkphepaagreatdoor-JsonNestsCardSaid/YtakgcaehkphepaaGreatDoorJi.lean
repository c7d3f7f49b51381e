/- strings.IndexRune at "+-_" and a rune beyond ASCII. -/
import Derived.Test.YtakgcaehkphepaaGreatDoorJh
namespace Go.Proofs.YtakgcaehkphepaaGreatDoor
open Go.RowKit
set_option linter.unusedVariables false
set_option linter.unusedSimpArgs false

/-- A call that leaves the world alone, behind an elder draw. -/
theorem drawnCall {f : FuncId} {args : Array Value} {v : Value} (c : ∀ W : World, Calls Tryz.prog f args W fun e w' => e = .returned v ∧ w' = W) (w : World) (a n : Nat) :
    Calls Tryz.prog f args (w.drewN (a + n)) fun e w'' => e = .returned v ∧ ∃ m, w'' = w.drewN (a + m) :=
  (c _).mono fun _ _ h => ⟨h.1, n, h.2⟩
theorem indexByte_far (s : ByteArray) (c : Int) (h0 : 128 ≤ c) (h1 : c ≤ 255) (hs : ∀ x ∈ s.data.toList, x.toNat < 128) (w : World) :
    Calls Tryz.prog 137 #[.string s, .int .u8 c] w fun e w' => e = .returned (.int .i64 (-1)) ∧ w' = w := by
  refine (Tryz.strings_IndexByte s c w).mono ?_
  rintro e w' ⟨rfl, rfl⟩
  refine ⟨?_, rfl⟩
  rw [ixByte_none]
  intro x hx e
  have := hs x hx
  rw [e] at this
  simp only [Nat.toUInt8, UInt8.toNat_ofNat'] at this
  omega

theorem pm_lt (a b : Nat) : ∀ x ∈ ((⟨#[43, 45, 95]⟩ : ByteArray).extract a b).data.toList, x.toNat < 128 := by
  rw [bs_lit, bs_extract, bs_data]
  intro x hx
  have := List.mem_of_mem_take (List.mem_of_mem_drop hx)
  simp at this
  rcases this with rfl | rfl | rfl <;> decide

set_option maxHeartbeats 1000000 in
set_option maxRecDepth 100000 in
theorem indexRune_far4 (r : Int) (h0 : 128 ≤ r) (h1 : r ≤ 1114111) (hne : (r == 65533) = false) (hv : Lib.validRune r = true) (w : World) (e : ByteArray) (he : Utf8.encode r = e) (hs : e.size = 4) :
    Calls Tryz.prog 120 #[.string ⟨#[43, 45, 95]⟩, .int .i32 r] w fun e w' => e = .returned (.int .i64 (-1)) ∧ w' = w := by
  go_enter Tryz.func120, Tryz.ntmps120
  go_wp2_with (go_at_call 138; refine (Tryz.utf8_ValidRune _ _).mono ?_; rintro e w' ⟨rfl, rfl⟩; rw [hv])
  go_step3
  go_wp2
  refine wp_loop_rounds 1 ?_
  rw [rounds_succ]
  go_wp2
  try rw [Exit.noGoto_ret]
  go_ret
  exact ⟨rfl, rfl⟩

set_option maxHeartbeats 1000000 in
set_option maxRecDepth 100000 in
theorem indexRune_far2 (r : Int) (h0 : 128 ≤ r) (h1 : r ≤ 1114111) (hne : (r == 65533) = false) (hv : Lib.validRune r = true) (w : World) (e : ByteArray) (he : Utf8.encode r = e) (hs : e.size = 2) (hl : ∀ p : 1 < e.size, 128 ≤ (e[1]'p).toNat) :
    Calls Tryz.prog 120 #[.string ⟨#[43, 45, 95]⟩, .int .i32 r] w fun e w' => e = .returned (.int .i64 (-1)) ∧ Fr none' w w' := by
  have hx : ∀ (q : 1 < (⟨#[43, 45, 95]⟩ : ByteArray).size) (p : 1 < e.size), ((((⟨#[43, 45, 95]⟩ : ByteArray)[1]'q).toNat : Int) != ((e[1]'p).toNat : Int)) = true := by
    intro q p
    have := hl p
    rw [bne_iff_ne]
    show ((45 : UInt8).toNat : Int) ≠ _
    have h45 : (45 : UInt8).toNat = 45 := rfl
    omega
  have hl1 := hl (by omega)
  have hl2 := (e[1]'(by omega)).toNat_lt
  clear hl
  have hC : ∀ W, Calls Tryz.prog 137 #[.string ((⟨#[43, 45, 95]⟩ : ByteArray).extract 2 3), .int .u8 (e[1]'(by omega)).toNat] W fun e w' => e = .returned (.int .i64 (-1)) ∧ w' = W := fun W => indexByte_far _ _ (by omega) (by omega) (pm_lt _ _) W
  go_enter Tryz.func120, Tryz.ntmps120
  go_wp2_with (go_at_call 138; refine (Tryz.utf8_ValidRune _ _).mono ?_; rintro e w' ⟨rfl, rfl⟩; rw [hv])
  go_step3
  go_wp2
  refine wp_loop_rounds 1 ?_
  rw [rounds_succ]
  go_wp2
  go_step3
  go_wp2
  go_quiet (fail)
  go_wp2
  go_quiet ((go_at_call 137; exact drawnCall hC _ _ _))
  go_wp2
  rw [Exit.noGoto_ret]
  go_wp2
  try rw [Exit.noGoto_ret]
  go_ret
  exact ⟨rfl, by repeat (first | exact Fr.refl _ _ | apply Fr.drewN)⟩

set_option maxHeartbeats 1000000 in
set_option maxRecDepth 100000 in
theorem indexRune_far3 (r : Int) (h0 : 128 ≤ r) (h1 : r ≤ 1114111) (hne : (r == 65533) = false) (hv : Lib.validRune r = true) (w : World) (e : ByteArray) (he : Utf8.encode r = e) (hs : e.size = 3) (hl : ∀ p : 2 < e.size, 128 ≤ (e[2]'p).toNat) :
    Calls Tryz.prog 120 #[.string ⟨#[43, 45, 95]⟩, .int .i32 r] w fun e w' => e = .returned (.int .i64 (-1)) ∧ Fr none' w w' := by
  have hx : ∀ (q : 2 < (⟨#[43, 45, 95]⟩ : ByteArray).size) (p : 2 < e.size), ((((⟨#[43, 45, 95]⟩ : ByteArray)[2]'q).toNat : Int) != ((e[2]'p).toNat : Int)) = true := by
    intro q p
    have := hl p
    rw [bne_iff_ne]
    show ((95 : UInt8).toNat : Int) ≠ _
    have h45 : (95 : UInt8).toNat = 95 := rfl
    omega
  have hl1 := hl (by omega)
  have hl2 := (e[2]'(by omega)).toNat_lt
  clear hl
  have hC : ∀ W, Calls Tryz.prog 137 #[.string ((⟨#[43, 45, 95]⟩ : ByteArray).extract 3 3), .int .u8 (e[2]'(by omega)).toNat] W fun e w' => e = .returned (.int .i64 (-1)) ∧ w' = W := fun W => indexByte_far _ _ (by omega) (by omega) (pm_lt _ _) W
  go_enter Tryz.func120, Tryz.ntmps120
  go_wp2_with (go_at_call 138; refine (Tryz.utf8_ValidRune _ _).mono ?_; rintro e w' ⟨rfl, rfl⟩; rw [hv])
  go_step3
  go_wp2
  refine wp_loop_rounds 1 ?_
  rw [rounds_succ]
  go_wp2
  go_step3
  go_wp2
  go_quiet (fail)
  go_wp2
  go_quiet ((go_at_call 137; exact drawnCall hC _ _ _))
  go_wp2
  rw [Exit.noGoto_ret]
  go_wp2
  try rw [Exit.noGoto_ret]
  go_ret
  exact ⟨rfl, by repeat (first | exact Fr.refl _ _ | apply Fr.drewN)⟩

end Go.Proofs.YtakgcaehkphepaaGreatDoor
