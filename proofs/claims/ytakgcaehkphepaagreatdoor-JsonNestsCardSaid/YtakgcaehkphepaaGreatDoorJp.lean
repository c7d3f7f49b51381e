/- (*json.reader).escape behind 'u', case by case; the whole. -/
import Derived.Test.YtakgcaehkphepaaGreatDoorJo
namespace Go.Proofs.YtakgcaehkphepaaGreatDoor
open Go.RowKit
set_option linter.unusedVariables false
set_option linter.unusedSimpArgs false


set_option maxHeartbeats 2000000 in
set_option maxRecDepth 100000 in
theorem escU4 (p : Value) (b : Nat) (s : Bs) (d : Int) (o : Option Int) (w : World) (h : RS p w b (117 :: s) d o) (n : Nat) (hx : hex4 s = some n) (hn : n < 65536) (h1 : 55296 ≤ n) (h2 : n < 56320) (hp : List.isPrefixOf [92, 117] (s.drop 4) = true) (hy : hex4 ((s.drop 4).drop 2) = none) :
    Calls Tryz.prog 122 #[.pointer (some ⟨b, 0, none⟩)] w fun e w' => e = .returned (.string (bs [])) ∧ RS p w' b ((s.drop 4).drop 2) d (failE o 152) ∧ Fr (· = b) w w' := by
  have hm1 : (w.alloc (.map escMap 8)).drew.heap[w.heap.size]? = some (.map escMap 8) := alloc_new w _
  have hl1 := esc_none _ _ hm1 (first (117 :: s)) rfl
  have R1 := Lib.hid (h.alloc (.map escMap 8))
  have H := Lib.hid h
  clear hm1 h
  have HX := Lib.hid hx
  clear hx
  have HP := Lib.hid hp
  clear hp
  have HY := Lib.hid hy
  clear hy
  obtain ⟨N, hN⟩ : ∃ N : Int, (n : Int) = N := ⟨_, rfl⟩
  have hn0 : 0 ≤ N := by omega
  have hn1 : N < 65536 := by omega
  have gh1 : 55296 ≤ N := by omega
  have gh2 : N < 56320 := by omega
  have HN := Lib.hid hN
  clear hN hn h1 h2
  go_enter Tryz.func122, Tryz.ntmps122
  go_wp2
  go_region_with (first
    | (go_at_call 141; refine (escaped_c _).mono ?_; rintro e w' ⟨rfl, rfl⟩)
    | (go_at_call 49; refine (first_c b (117 :: s) d _ _ (by first | exact H.out.rd.alloc _ | exact H.out.rd)).mono ?_; rintro e w' ⟨rfl, rfl⟩))
  all_goals
    go_wp2_with fail
    refine (take_r p b (117 :: s) [117] d o _ R1.out.drew).mono ?_
    rintro e w2 ⟨rfl, r2, f2⟩
    rw [pre_u]
    rw [cut_u] at r2
    have R2 := Lib.hid r2
    have F2 := Lib.hid f2
    clear r2 f2
    go_wp2_with fail
    refine (number_r p b s d o _ R2.out).mono ?_
    rintro e w3 ⟨rfl, r3, f3⟩
    rw [HX.out] at r3 ⊢
    have R3 : Hid (RS p w3 b (s.drop 4) d o) := Lib.hid r3
    have F3 := Lib.hid f3
    clear r3 f3
    unfold numV
    simp only [HN.out]
    go_wp2_with fail
    refine (take_r p b (s.drop 4) [92, 117] d o _ R3.out).mono ?_
    rintro e w4 ⟨rfl, r4, f4⟩
    rw [HP.out]
    rw [cutPre_yes HP.out] at r4
    have R4 : Hid (RS p w4 b ((s.drop 4).drop 2) d o) := Lib.hid r4
    have F4 := Lib.hid f4
    clear r4 f4
    go_wp2_with fail
    refine (number_r p b ((s.drop 4).drop 2) d o _ R4.out).mono ?_
    rintro e w5 ⟨rfl, r5, f5⟩
    rw [HY.out] at r5 ⊢
    have R5 : Hid (RS p w5 b ((s.drop 4).drop 2) d o) := Lib.hid r5
    have F5 := Lib.hid f5
    clear r5 f5
    unfold numV
    go_wp2_with fail
    refine (fail_r p b ((s.drop 4).drop 2) d 152 o _ R5.out).mono ?_
    rintro e w6 ⟨rfl, r6, f6⟩
    have R6 := Lib.hid r6
    have F6 := Lib.hid f6
    clear r6 f6
    go_wp2
    go_ret
    exact ⟨rfl, R6.out, ((((((((Fr.refl (· = b) w).alloc _).drew).trans F2.out).trans F3.out).trans F4.out).trans F5.out).trans F6.out)⟩

set_option maxHeartbeats 2000000 in
set_option maxRecDepth 100000 in
theorem escU5a (p : Value) (b : Nat) (s : Bs) (d : Int) (o : Option Int) (w : World) (h : RS p w b (117 :: s) d o) (n : Nat) (hx : hex4 s = some n) (hn : n < 65536) (h1 : 55296 ≤ n) (h2 : n < 56320) (hp : List.isPrefixOf [92, 117] (s.drop 4) = true) (m : Nat) (hy : hex4 ((s.drop 4).drop 2) = some m) (hm : m < 65536) (h3 : m < 56320) :
    Calls Tryz.prog 122 #[.pointer (some ⟨b, 0, none⟩)] w fun e w' => e = .returned (.string (bs [])) ∧ RS p w' b (((s.drop 4).drop 2).drop 4) d (failE o 152) ∧ Fr (· = b) w w' := by
  have hm1 : (w.alloc (.map escMap 8)).drew.heap[w.heap.size]? = some (.map escMap 8) := alloc_new w _
  have hl1 := esc_none _ _ hm1 (first (117 :: s)) rfl
  have R1 := Lib.hid (h.alloc (.map escMap 8))
  have H := Lib.hid h
  clear hm1 h
  have HX := Lib.hid hx
  clear hx
  have HP := Lib.hid hp
  clear hp
  have HY := Lib.hid hy
  clear hy
  obtain ⟨N, hN⟩ : ∃ N : Int, (n : Int) = N := ⟨_, rfl⟩
  have hn0 : 0 ≤ N := by omega
  have hn1 : N < 65536 := by omega
  obtain ⟨M, hM⟩ : ∃ M : Int, (m : Int) = M := ⟨_, rfl⟩
  have hm0 : 0 ≤ M := by omega
  have hm1' : M < 65536 := by omega
  have gh1 : 55296 ≤ N := by omega
  have gh2 : N < 56320 := by omega
  have gh3 : M < 56320 := by omega
  have HN := Lib.hid hN
  have HM := Lib.hid hM
  clear hM hm
  clear hN hn h1 h2 h3
  go_enter Tryz.func122, Tryz.ntmps122
  go_wp2
  go_region_with (first
    | (go_at_call 141; refine (escaped_c _).mono ?_; rintro e w' ⟨rfl, rfl⟩)
    | (go_at_call 49; refine (first_c b (117 :: s) d _ _ (by first | exact H.out.rd.alloc _ | exact H.out.rd)).mono ?_; rintro e w' ⟨rfl, rfl⟩))
  all_goals
    go_wp2_with fail
    refine (take_r p b (117 :: s) [117] d o _ R1.out.drew).mono ?_
    rintro e w2 ⟨rfl, r2, f2⟩
    rw [pre_u]
    rw [cut_u] at r2
    have R2 := Lib.hid r2
    have F2 := Lib.hid f2
    clear r2 f2
    go_wp2_with fail
    refine (number_r p b s d o _ R2.out).mono ?_
    rintro e w3 ⟨rfl, r3, f3⟩
    rw [HX.out] at r3 ⊢
    have R3 : Hid (RS p w3 b (s.drop 4) d o) := Lib.hid r3
    have F3 := Lib.hid f3
    clear r3 f3
    unfold numV
    simp only [HN.out]
    go_wp2_with fail
    refine (take_r p b (s.drop 4) [92, 117] d o _ R3.out).mono ?_
    rintro e w4 ⟨rfl, r4, f4⟩
    rw [HP.out]
    rw [cutPre_yes HP.out] at r4
    have R4 : Hid (RS p w4 b ((s.drop 4).drop 2) d o) := Lib.hid r4
    have F4 := Lib.hid f4
    clear r4 f4
    go_wp2_with fail
    refine (number_r p b ((s.drop 4).drop 2) d o _ R4.out).mono ?_
    rintro e w5 ⟨rfl, r5, f5⟩
    rw [HY.out] at r5 ⊢
    have R5 : Hid (RS p w5 b (((s.drop 4).drop 2).drop 4) d o) := Lib.hid r5
    have F5 := Lib.hid f5
    clear r5 f5
    unfold numV
    simp only [HM.out]
    go_wp2_with fail
    refine (fail_r p b (((s.drop 4).drop 2).drop 4) d 152 o _ R5.out).mono ?_
    rintro e w6 ⟨rfl, r6, f6⟩
    have R6 := Lib.hid r6
    have F6 := Lib.hid f6
    clear r6 f6
    go_wp2
    go_ret
    exact ⟨rfl, R6.out, ((((((((Fr.refl (· = b) w).alloc _).drew).trans F2.out).trans F3.out).trans F4.out).trans F5.out).trans F6.out)⟩

set_option maxHeartbeats 2000000 in
set_option maxRecDepth 100000 in
theorem escU5b (p : Value) (b : Nat) (s : Bs) (d : Int) (o : Option Int) (w : World) (h : RS p w b (117 :: s) d o) (n : Nat) (hx : hex4 s = some n) (hn : n < 65536) (h1 : 55296 ≤ n) (h2 : n < 56320) (hp : List.isPrefixOf [92, 117] (s.drop 4) = true) (m : Nat) (hy : hex4 ((s.drop 4).drop 2) = some m) (hm : m < 65536) (h3 : 57343 < m) :
    Calls Tryz.prog 122 #[.pointer (some ⟨b, 0, none⟩)] w fun e w' => e = .returned (.string (bs [])) ∧ RS p w' b (((s.drop 4).drop 2).drop 4) d (failE o 152) ∧ Fr (· = b) w w' := by
  have hm1 : (w.alloc (.map escMap 8)).drew.heap[w.heap.size]? = some (.map escMap 8) := alloc_new w _
  have hl1 := esc_none _ _ hm1 (first (117 :: s)) rfl
  have R1 := Lib.hid (h.alloc (.map escMap 8))
  have H := Lib.hid h
  clear hm1 h
  have HX := Lib.hid hx
  clear hx
  have HP := Lib.hid hp
  clear hp
  have HY := Lib.hid hy
  clear hy
  obtain ⟨N, hN⟩ : ∃ N : Int, (n : Int) = N := ⟨_, rfl⟩
  have hn0 : 0 ≤ N := by omega
  have hn1 : N < 65536 := by omega
  obtain ⟨M, hM⟩ : ∃ M : Int, (m : Int) = M := ⟨_, rfl⟩
  have hm0 : 0 ≤ M := by omega
  have hm1' : M < 65536 := by omega
  have gh1 : 55296 ≤ N := by omega
  have gh2 : N < 56320 := by omega
  have gh3 : 57343 < M := by omega
  have HN := Lib.hid hN
  have HM := Lib.hid hM
  clear hM hm
  clear hN hn h1 h2 h3
  go_enter Tryz.func122, Tryz.ntmps122
  go_wp2
  go_region_with (first
    | (go_at_call 141; refine (escaped_c _).mono ?_; rintro e w' ⟨rfl, rfl⟩)
    | (go_at_call 49; refine (first_c b (117 :: s) d _ _ (by first | exact H.out.rd.alloc _ | exact H.out.rd)).mono ?_; rintro e w' ⟨rfl, rfl⟩))
  all_goals
    go_wp2_with fail
    refine (take_r p b (117 :: s) [117] d o _ R1.out.drew).mono ?_
    rintro e w2 ⟨rfl, r2, f2⟩
    rw [pre_u]
    rw [cut_u] at r2
    have R2 := Lib.hid r2
    have F2 := Lib.hid f2
    clear r2 f2
    go_wp2_with fail
    refine (number_r p b s d o _ R2.out).mono ?_
    rintro e w3 ⟨rfl, r3, f3⟩
    rw [HX.out] at r3 ⊢
    have R3 : Hid (RS p w3 b (s.drop 4) d o) := Lib.hid r3
    have F3 := Lib.hid f3
    clear r3 f3
    unfold numV
    simp only [HN.out]
    go_wp2_with fail
    refine (take_r p b (s.drop 4) [92, 117] d o _ R3.out).mono ?_
    rintro e w4 ⟨rfl, r4, f4⟩
    rw [HP.out]
    rw [cutPre_yes HP.out] at r4
    have R4 : Hid (RS p w4 b ((s.drop 4).drop 2) d o) := Lib.hid r4
    have F4 := Lib.hid f4
    clear r4 f4
    go_wp2_with fail
    refine (number_r p b ((s.drop 4).drop 2) d o _ R4.out).mono ?_
    rintro e w5 ⟨rfl, r5, f5⟩
    rw [HY.out] at r5 ⊢
    have R5 : Hid (RS p w5 b (((s.drop 4).drop 2).drop 4) d o) := Lib.hid r5
    have F5 := Lib.hid f5
    clear r5 f5
    unfold numV
    simp only [HM.out]
    go_wp2_with fail
    refine (fail_r p b (((s.drop 4).drop 2).drop 4) d 152 o _ R5.out).mono ?_
    rintro e w6 ⟨rfl, r6, f6⟩
    have R6 := Lib.hid r6
    have F6 := Lib.hid f6
    clear r6 f6
    go_wp2
    go_ret
    exact ⟨rfl, R6.out, ((((((((Fr.refl (· = b) w).alloc _).drew).trans F2.out).trans F3.out).trans F4.out).trans F5.out).trans F6.out)⟩

set_option maxHeartbeats 2000000 in
set_option maxRecDepth 100000 in
theorem escU6 (p : Value) (b : Nat) (s : Bs) (d : Int) (o : Option Int) (w : World) (h : RS p w b (117 :: s) d o) (n : Nat) (hx : hex4 s = some n) (hn : n < 65536) (h1 : 55296 ≤ n) (h2 : n < 56320) (hp : List.isPrefixOf [92, 117] (s.drop 4) = true) (m : Nat) (hy : hex4 ((s.drop 4).drop 2) = some m) (hm : m < 65536) (h3 : 56320 ≤ m) (h4 : m ≤ 57343) :
    Calls Tryz.prog 122 #[.pointer (some ⟨b, 0, none⟩)] w fun e w' => e = .returned (.string (bs (encB (65536 + ((n : Int) - 55296) * 1024 + m - 56320)))) ∧ RS p w' b (((s.drop 4).drop 2).drop 4) d o ∧ Fr (· = b) w w' := by
  have hm1 : (w.alloc (.map escMap 8)).drew.heap[w.heap.size]? = some (.map escMap 8) := alloc_new w _
  have hl1 := esc_none _ _ hm1 (first (117 :: s)) rfl
  have R1 := Lib.hid (h.alloc (.map escMap 8))
  have H := Lib.hid h
  clear hm1 h
  have HX := Lib.hid hx
  clear hx
  have HP := Lib.hid hp
  clear hp
  have HY := Lib.hid hy
  clear hy
  obtain ⟨N, hN⟩ : ∃ N : Int, (n : Int) = N := ⟨_, rfl⟩
  have hn0 : 0 ≤ N := by omega
  have hn1 : N < 65536 := by omega
  obtain ⟨M, hM⟩ : ∃ M : Int, (m : Int) = M := ⟨_, rfl⟩
  have hm0 : 0 ≤ M := by omega
  have hm1' : M < 65536 := by omega
  have gh1 : 55296 ≤ N := by omega
  have gh2 : N < 56320 := by omega
  have gh3 : 56320 ≤ M := by omega
  have gh4 : M ≤ 57343 := by omega
  have HN := Lib.hid hN
  have HM := Lib.hid hM
  clear hM hm
  clear hN hn h1 h2 h3 h4
  go_enter Tryz.func122, Tryz.ntmps122
  go_wp2
  go_region_with (first
    | (go_at_call 141; refine (escaped_c _).mono ?_; rintro e w' ⟨rfl, rfl⟩)
    | (go_at_call 49; refine (first_c b (117 :: s) d _ _ (by first | exact H.out.rd.alloc _ | exact H.out.rd)).mono ?_; rintro e w' ⟨rfl, rfl⟩))
  all_goals
    go_wp2_with fail
    refine (take_r p b (117 :: s) [117] d o _ R1.out.drew).mono ?_
    rintro e w2 ⟨rfl, r2, f2⟩
    rw [pre_u]
    rw [cut_u] at r2
    have R2 := Lib.hid r2
    have F2 := Lib.hid f2
    clear r2 f2
    go_wp2_with fail
    refine (number_r p b s d o _ R2.out).mono ?_
    rintro e w3 ⟨rfl, r3, f3⟩
    rw [HX.out] at r3 ⊢
    have R3 : Hid (RS p w3 b (s.drop 4) d o) := Lib.hid r3
    have F3 := Lib.hid f3
    clear r3 f3
    unfold numV
    simp only [HN.out]
    go_wp2_with fail
    refine (take_r p b (s.drop 4) [92, 117] d o _ R3.out).mono ?_
    rintro e w4 ⟨rfl, r4, f4⟩
    rw [HP.out]
    rw [cutPre_yes HP.out] at r4
    have R4 : Hid (RS p w4 b ((s.drop 4).drop 2) d o) := Lib.hid r4
    have F4 := Lib.hid f4
    clear r4 f4
    go_wp2_with fail
    refine (number_r p b ((s.drop 4).drop 2) d o _ R4.out).mono ?_
    rintro e w5 ⟨rfl, r5, f5⟩
    rw [HY.out] at r5 ⊢
    have R5 : Hid (RS p w5 b (((s.drop 4).drop 2).drop 4) d o) := Lib.hid r5
    have F5 := Lib.hid f5
    clear r5 f5
    unfold numV
    simp only [HM.out]
    go_wp2
    go_ret
    exact ⟨by rw [encB_bs, HN.out, HM.out]; rfl, R5.out, (((((((Fr.refl (· = b) w).alloc _).drew).trans F2.out).trans F3.out).trans F4.out).trans F5.out)⟩
end Go.Proofs.YtakgcaehkphepaaGreatDoor
