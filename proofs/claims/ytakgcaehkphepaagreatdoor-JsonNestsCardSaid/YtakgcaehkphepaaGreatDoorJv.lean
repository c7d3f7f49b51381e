/- (*json.reader).literal. -/
import Derived.Test.YtakgcaehkphepaaGreatDoorJu
namespace Go.Proofs.YtakgcaehkphepaaGreatDoor
open Go.RowKit
set_option linter.unusedVariables false
set_option linter.unusedSimpArgs false

def sNull : Bs := [110, 117, 108, 108]
def sTrue : Bs := [116, 114, 117, 101]
def sFalse : Bs := [102, 97, 108, 115, 101]
def jv (k : Int) (y : Bool) (n : Int) (s : Bs) : Value := .agg #[.int .i64 k, .bool y, .int .i64 n, .string (bs s), .slice none 0 0, .slice none 0 0]
def litMap : Array MapEntry := #[⟨.string (bs sTrue), jv 1 true 0 [], 0⟩, ⟨.string (bs sFalse), jv 1 false 0 [], 1⟩]
theorem check_str (b : Bool) (s : ByteArray) (W : World) : (Instr.checkKey b 10000 9 (.string s)).run Tryz.prog W = .ok () W := by kernel_rfl
theorem Jv.ins0 (w : World) : (Instr.mapUpdate 108 (.map (some w.heap.size)) (.string ⟨#[116, 114, 117, 101]⟩) (.agg #[.int .i64 1, .bool true, .int .i64 0, .string ⟨#[]⟩, .slice none 0 0, .slice none 0 0])).run Tryz.prog (w.alloc (.map #[] 0)) = .ok () (w.alloc (.map #[⟨.string (bs sTrue), jv 1 true 0 [], 0⟩] 1)) :=
  run_insert_last w #[] 0 _ _ Tryz.underlying108 Tryz.underlying9 (check_str _ _ _) (by rfl)
theorem Jv.ins1 (w : World) : (Instr.mapUpdate 108 (.map (some w.heap.size)) (.string ⟨#[102, 97, 108, 115, 101]⟩) (.agg #[.int .i64 1, .bool false, .int .i64 0, .string ⟨#[]⟩, .slice none 0 0, .slice none 0 0])).run Tryz.prog (w.alloc (.map #[⟨.string (bs sTrue), jv 1 true 0 [], 0⟩] 1)) = .ok () (w.alloc (.map litMap 2)) :=
  run_insert_last w #[⟨.string (bs sTrue), jv 1 true 0 [], 0⟩] 1 _ _ Tryz.underlying108 Tryz.underlying9 (check_str _ _ _) (by rfl)
theorem run_look_at {P : Program} (W : World) (m : Nat) (es : Array MapEntry) (clock : Nat) {t kT eT : TypeId} {d : TypeDesc} (k : Value) (hg : W.heap[m]? = some (.map es clock)) (hu : P.underlying t = some (.map kT eT)) (hk : P.underlying kT = some d)
    (hc : (Instr.checkKey es.isEmpty 10000 kT k).run P W = .ok () W) (i : Nat) (v : Value) (hf : Instr.findNow d k es.toList 0 = some (some (i, v))) :
    (Instr.lookup t (.map (some m)) k false).run P W = .ok v W := by
  simp [Instr.lookup, run_underlying hu, Sem.run_bind, Result.andThen, getObj, Sem.run, hg, hc, Instr.findKey, run_underlying hk, hf]
theorem run_look_none {P : Program} (W : World) (m : Nat) (es : Array MapEntry) (clock : Nat) {t kT eT : TypeId} {d : TypeDesc} (k z : Value) (hg : W.heap[m]? = some (.map es clock)) (hu : P.underlying t = some (.map kT eT)) (hk : P.underlying kT = some d)
    (hc : (Instr.checkKey es.isEmpty 10000 kT k).run P W = .ok () W) (hf : Instr.findNow d k es.toList 0 = some none) (hz : (zeroValue eT).run P W = .ok z W) :
    (Instr.lookup t (.map (some m)) k false).run P W = .ok z W := by
  simp [Instr.lookup, run_underlying hu, Sem.run_bind, Result.andThen, getObj, Sem.run, hg, hc, Instr.findKey, run_underlying hk, hf, hz]
theorem look_null (W : World) (m : Nat) (hg : W.heap[m]? = some (.map litMap 2)) : (Instr.lookup 108 (.map (some m)) (.string (bs sNull)) false).run Tryz.prog W = .ok (jv 0 false 0 []) W :=
  run_look_none W m litMap 2 _ _ hg Tryz.underlying108 Tryz.underlying9 (check_str _ _ _) (by rfl) (by kernel_rfl)
theorem look_true (W : World) (m : Nat) (hg : W.heap[m]? = some (.map litMap 2)) : (Instr.lookup 108 (.map (some m)) (.string (bs sTrue)) false).run Tryz.prog W = .ok (jv 1 true 0 []) W :=
  run_look_at W m litMap 2 _ hg Tryz.underlying108 Tryz.underlying9 (check_str _ _ _) 0 _ (by rfl)
theorem look_false (W : World) (m : Nat) (hg : W.heap[m]? = some (.map litMap 2)) : (Instr.lookup 108 (.map (some m)) (.string (bs sFalse)) false).run Tryz.prog W = .ok (jv 1 false 0 []) W :=
  run_look_at W m litMap 2 _ hg Tryz.underlying108 Tryz.underlying9 (check_str _ _ _) 1 _ (by rfl)

set_option maxHeartbeats 2000000 in
set_option maxRecDepth 100000 in
theorem literal_c (p : Value) (r : Nat) (s : Bs) (d : Int) (o : Option Int) (g : Nat) (w : World) (h : RS p w r s d o) (hg : w.heap[g]? = some (.cells #[.string (bs sNull), .string (bs sTrue), .string (bs sFalse)] 9 (0, 0))) (hgr : g ≠ r) :
    Calls Tryz.prog 50 #[.pointer (some ⟨r, 0, none⟩), .slice (some ⟨g, 0, none⟩) 3 3] w fun e w' =>
      e = .returned (.tuple (if sNull.isPrefixOf s then #[jv 0 false 0 [], .bool true] else if sTrue.isPrefixOf s then #[jv 1 true 0 [], .bool true] else if sFalse.isPrefixOf s then #[jv 1 false 0 [], .bool true] else #[jv 0 false 0 [], .bool false])) ∧
      RS p w' r (if sNull.isPrefixOf s then s.drop 4 else if sTrue.isPrefixOf s then s.drop 4 else if sFalse.isPrefixOf s then s.drop 5 else s) d o ∧ Fr (· = r) w w' := by
  obtain ⟨RES, hRES⟩ : ∃ RES, (if sNull.isPrefixOf s then #[jv 0 false 0 [], .bool true] else if sTrue.isPrefixOf s then #[jv 1 true 0 [], .bool true] else if sFalse.isPrefixOf s then #[jv 1 false 0 [], .bool true] else #[jv 0 false 0 [], .bool false]) = RES := ⟨_, rfl⟩
  obtain ⟨RST, hRST⟩ : ∃ RST, (if sNull.isPrefixOf s then s.drop 4 else if sTrue.isPrefixOf s then s.drop 4 else if sFalse.isPrefixOf s then s.drop 5 else s) = RST := ⟨_, rfl⟩
  rw [hRES, hRST]
  have HE := Lib.hid hRES
  have HT := Lib.hid hRST
  clear hRES hRST
  have R1 := h.alloc (.cells #[.int .i64 0, .bool false, .int .i64 0, .string ⟨#[]⟩, .slice none 0 0, .slice none 0 0] 26 (0, 0))
  have HB := Lib.hid (B26.new w (.int .i64 0) (.bool false) (.int .i64 0) (.string ⟨#[]⟩) (.slice none 0 0) (.slice none 0 0))
  have HF := Lib.hid ((Fr.refl (· = r) w).alloc (.cells #[.int .i64 0, .bool false, .int .i64 0, .string ⟨#[]⟩, .slice none 0 0, .slice none 0 0] 26 (0, 0)))
  have HG := Lib.hid (alloc_old hg (.cells #[.int .i64 0, .bool false, .int .i64 0, .string ⟨#[]⟩, .slice none 0 0, .slice none 0 0] 26 (0, 0)))
  have hr : r < w.heap.size := h.rd.lt
  have hgl : g < w.heap.size := lt_of hg
  have HR1 := Lib.hid R1
  obtain ⟨w1, hw1⟩ : ∃ w1, w.alloc (.cells #[.int .i64 0, .bool false, .int .i64 0, .string ⟨#[]⟩, .slice none 0 0, .slice none 0 0] 26 (0, 0)) = w1 := ⟨_, rfl⟩
  have hw1' : w.alloc (.cells #[.int .i64 0, .bool false, .int .i64 0, .string ⟨#[]⟩, .slice none 0 0, .slice none 0 0] 26) = w1 := hw1
  clear h R1 hg
  go_enter Tryz.func50, Tryz.ntmps50
  go_wp2
  rw [hw1] at HR1 HG HF
  rw [hw1'] at HB
  clear hw1 hw1'
  go_loopg [10] 4 (fun k v wx => ∃ j : Nat, v = .int .i64 j ∧ j + k = 4 ∧ j ≤ 3 ∧ RS p wx r s d o ∧ Fr (· = r) w wx ∧ B26 wx w.heap.size (.int .i64 0) (.bool false) (.int .i64 0) (.string ⟨#[]⟩) (.slice none 0 0) (.slice none 0 0) ∧ wx.heap[g]? = some (.cells #[.string (bs sNull), .string (bs sTrue), .string (bs sFalse)] 9 (0, 0)) ∧ (1 ≤ j → sNull.isPrefixOf s = false) ∧ (2 ≤ j → sTrue.isPrefixOf s = false) ∧ (3 ≤ j → sFalse.isPrefixOf s = false))
  case atStart => exact ⟨0, rfl, rfl, by omega, HR1.out, HF.out, HB.out, HG.out, (fun h => absurd h (by omega)), (fun h => absurd h (by omega)), (fun h => absurd h (by omega))⟩
  case round =>
    obtain ⟨j, rfl, hjk, hj3, hrs, hfr, hb, hg, h1, h2, h3⟩ := hrel
    have HRS := Lib.hid hrs
    have HFR := Lib.hid hfr
    have HB2 := Lib.hid hb
    have HG2 := Lib.hid hg
    clear hrs hfr hb HB HG HF HR1
    obtain rfl | rfl | rfl | rfl : j = 0 ∨ j = 1 ∨ j = 2 ∨ j = 3 := by omega
    · have e : wr.cell? ⟨g, 0, none⟩ = some (.string (bs sNull)) := cell_of hg 0
      clear hg
      go_wp2_with fail
      refine (take_r p r s sNull d o _ HRS.out).mono ?_
      rintro e w2 ⟨rfl, R2, f2⟩
      cases q : sNull.isPrefixOf s with
      | true =>
        rw [cutPre_yes q] at R2
        have F2 := HFR.out.trans f2
        have B2 := HB2.out.fr f2 (by omega)
        clear f2
        have Q := Lib.hid q
        clear q
        have hmm := @run_makeMap Tryz.prog
        have i0 := Jv.ins0 w2
        have i1 := Jv.ins1 w2
        have hlk := look_null (w2.alloc (.map litMap 2)) w2.heap.size (alloc_new w2 _)
        unfold jv at hlk
        have b0 := B26.c0 (B2.alloc (.map litMap 2))
        have b1 := B26.c1 (B2.alloc (.map litMap 2))
        have b2 := B26.c2 (B2.alloc (.map litMap 2))
        have b3 := B26.c3 (B2.alloc (.map litMap 2))
        have b4 := B26.c4 (B2.alloc (.map litMap 2))
        have b5 := B26.c5 (B2.alloc (.map litMap 2))
        have z0 := B26.fz (B2.alloc (.map litMap 2)) 0
        have z1 := B26.fz (B2.alloc (.map litMap 2)) 1
        have z2 := B26.fz (B2.alloc (.map litMap 2)) 2
        have z3 := B26.fz (B2.alloc (.map litMap 2)) 3
        have z4 := B26.fz (B2.alloc (.map litMap 2)) 4
        have z5 := B26.fz (B2.alloc (.map litMap 2)) 5
        have F3 := Lib.hid (F2.alloc (.map litMap 2))
        have R3 := Lib.hid (R2.alloc (.map litMap 2))
        have B3 := Lib.hid (B2.alloc (.map litMap 2))
        clear R2 B2 F2
        go_wp2
        refine put_elim B3.out ?_
        intro w3 hb3 f4
        clear b0 b1 b2 b3 b4 b5 z0 z1 z2 z3 z4 z5
        go_wp2
        refine bodyPost_ret (ret26' rfl rfl hb3) rfl ?_
        have nq := Q.out
        rw [← HE.out, ← HT.out]
        simp only [nq, if_true, if_false, Bool.false_eq_true]
        have hlo := R3.out.lo
        refine ⟨rfl, ⟨R3.out.gl.fr f4 (fun k hk e => by have := R3.out.lo; omega), R3.out.rd.fr f4 (by omega), R3.out.lo⟩, F3.out.call f4 (fun i hi => .inr (by omega))⟩
      | false =>
        rw [cutPre_no q] at R2
        have F2 := HFR.out.trans f2
        have B2 := HB2.out.fr f2 (by omega)
        have G2 := f2.get HG2.out hgr
        clear f2
        obtain ⟨k, rfl⟩ : ∃ k, gk = k + 1 := ⟨gk - 1, by omega⟩
        go_wp2
        go_roundg k
        case measure => exact Nat.lt_succ_self _
        case rel => exact ⟨1, rfl, by omega, by omega, R2, F2, B2, G2, (fun _ => q), (fun h => absurd h (by omega)), (fun h => absurd h (by omega))⟩
    · have e : wr.cell? ⟨g, 1, none⟩ = some (.string (bs sTrue)) := cell_of hg 1
      clear hg
      go_wp2_with fail
      refine (take_r p r s sTrue d o _ HRS.out).mono ?_
      rintro e w2 ⟨rfl, R2, f2⟩
      cases q : sTrue.isPrefixOf s with
      | true =>
        rw [cutPre_yes q] at R2
        have F2 := HFR.out.trans f2
        have B2 := HB2.out.fr f2 (by omega)
        clear f2
        have Q := Lib.hid q
        clear q
        have hmm := @run_makeMap Tryz.prog
        have i0 := Jv.ins0 w2
        have i1 := Jv.ins1 w2
        have hlk := look_true (w2.alloc (.map litMap 2)) w2.heap.size (alloc_new w2 _)
        unfold jv at hlk
        have b0 := B26.c0 (B2.alloc (.map litMap 2))
        have b1 := B26.c1 (B2.alloc (.map litMap 2))
        have b2 := B26.c2 (B2.alloc (.map litMap 2))
        have b3 := B26.c3 (B2.alloc (.map litMap 2))
        have b4 := B26.c4 (B2.alloc (.map litMap 2))
        have b5 := B26.c5 (B2.alloc (.map litMap 2))
        have z0 := B26.fz (B2.alloc (.map litMap 2)) 0
        have z1 := B26.fz (B2.alloc (.map litMap 2)) 1
        have z2 := B26.fz (B2.alloc (.map litMap 2)) 2
        have z3 := B26.fz (B2.alloc (.map litMap 2)) 3
        have z4 := B26.fz (B2.alloc (.map litMap 2)) 4
        have z5 := B26.fz (B2.alloc (.map litMap 2)) 5
        have F3 := Lib.hid (F2.alloc (.map litMap 2))
        have R3 := Lib.hid (R2.alloc (.map litMap 2))
        have B3 := Lib.hid (B2.alloc (.map litMap 2))
        clear R2 B2 F2
        go_wp2
        refine put_elim B3.out ?_
        intro w3 hb3 f4
        clear b0 b1 b2 b3 b4 b5 z0 z1 z2 z3 z4 z5
        go_wp2
        refine bodyPost_ret (ret26' rfl rfl hb3) rfl ?_
        have n1 := h1 (by omega)
        have nq := Q.out
        rw [← HE.out, ← HT.out]
        simp only [n1, nq, if_true, if_false, Bool.false_eq_true]
        have hlo := R3.out.lo
        refine ⟨rfl, ⟨R3.out.gl.fr f4 (fun k hk e => by have := R3.out.lo; omega), R3.out.rd.fr f4 (by omega), R3.out.lo⟩, F3.out.call f4 (fun i hi => .inr (by omega))⟩
      | false =>
        rw [cutPre_no q] at R2
        have F2 := HFR.out.trans f2
        have B2 := HB2.out.fr f2 (by omega)
        have G2 := f2.get HG2.out hgr
        clear f2
        obtain ⟨k, rfl⟩ : ∃ k, gk = k + 1 := ⟨gk - 1, by omega⟩
        go_wp2
        go_roundg k
        case measure => exact Nat.lt_succ_self _
        case rel => exact ⟨2, rfl, by omega, by omega, R2, F2, B2, G2, (fun _ => h1 (by omega)), (fun _ => q), (fun h => absurd h (by omega))⟩
    · have e : wr.cell? ⟨g, 2, none⟩ = some (.string (bs sFalse)) := cell_of hg 2
      clear hg
      go_wp2_with fail
      refine (take_r p r s sFalse d o _ HRS.out).mono ?_
      rintro e w2 ⟨rfl, R2, f2⟩
      cases q : sFalse.isPrefixOf s with
      | true =>
        rw [cutPre_yes q] at R2
        have F2 := HFR.out.trans f2
        have B2 := HB2.out.fr f2 (by omega)
        clear f2
        have Q := Lib.hid q
        clear q
        have hmm := @run_makeMap Tryz.prog
        have i0 := Jv.ins0 w2
        have i1 := Jv.ins1 w2
        have hlk := look_false (w2.alloc (.map litMap 2)) w2.heap.size (alloc_new w2 _)
        unfold jv at hlk
        have b0 := B26.c0 (B2.alloc (.map litMap 2))
        have b1 := B26.c1 (B2.alloc (.map litMap 2))
        have b2 := B26.c2 (B2.alloc (.map litMap 2))
        have b3 := B26.c3 (B2.alloc (.map litMap 2))
        have b4 := B26.c4 (B2.alloc (.map litMap 2))
        have b5 := B26.c5 (B2.alloc (.map litMap 2))
        have z0 := B26.fz (B2.alloc (.map litMap 2)) 0
        have z1 := B26.fz (B2.alloc (.map litMap 2)) 1
        have z2 := B26.fz (B2.alloc (.map litMap 2)) 2
        have z3 := B26.fz (B2.alloc (.map litMap 2)) 3
        have z4 := B26.fz (B2.alloc (.map litMap 2)) 4
        have z5 := B26.fz (B2.alloc (.map litMap 2)) 5
        have F3 := Lib.hid (F2.alloc (.map litMap 2))
        have R3 := Lib.hid (R2.alloc (.map litMap 2))
        have B3 := Lib.hid (B2.alloc (.map litMap 2))
        clear R2 B2 F2
        go_wp2
        refine put_elim B3.out ?_
        intro w3 hb3 f4
        clear b0 b1 b2 b3 b4 b5 z0 z1 z2 z3 z4 z5
        go_wp2
        refine bodyPost_ret (ret26' rfl rfl hb3) rfl ?_
        have n1 := h1 (by omega)
        have n2 := h2 (by omega)
        have nq := Q.out
        rw [← HE.out, ← HT.out]
        simp only [n1, n2, nq, if_true, if_false, Bool.false_eq_true]
        have hlo := R3.out.lo
        refine ⟨rfl, ⟨R3.out.gl.fr f4 (fun k hk e => by have := R3.out.lo; omega), R3.out.rd.fr f4 (by omega), R3.out.lo⟩, F3.out.call f4 (fun i hi => .inr (by omega))⟩
      | false =>
        rw [cutPre_no q] at R2
        have F2 := HFR.out.trans f2
        have B2 := HB2.out.fr f2 (by omega)
        have G2 := f2.get HG2.out hgr
        clear f2
        obtain ⟨k, rfl⟩ : ∃ k, gk = k + 1 := ⟨gk - 1, by omega⟩
        go_wp2
        go_roundg k
        case measure => exact Nat.lt_succ_self _
        case rel => exact ⟨3, rfl, by omega, by omega, R2, F2, B2, G2, (fun _ => h1 (by omega)), (fun _ => h2 (by omega)), (fun _ => q)⟩
    · clear hg
      have hb := HB2.out
      have b0 := B26.c0 hb
      have b1 := B26.c1 hb
      have b2 := B26.c2 hb
      have b3 := B26.c3 hb
      have b4 := B26.c4 hb
      have b5 := B26.c5 hb
      have z0 := B26.fz hb 0
      have z1 := B26.fz hb 1
      have z2 := B26.fz hb 2
      have z3 := B26.fz hb 3
      have z4 := B26.fz hb 4
      have z5 := B26.fz hb 5
      go_wp2
      refine put_elim HB2.out ?_
      intro w3 hb3 f4
      clear b0 b1 b2 b3 b4 b5 z0 z1 z2 z3 z4 z5
      go_wp2
      refine bodyPost_ret (ret26' rfl rfl hb3) rfl ?_
      have n1 := h1 (by omega)
      have n2 := h2 (by omega)
      have n3 := h3 (by omega)
      rw [← HE.out, ← HT.out]
      simp only [n1, n2, n3, if_true, if_false, Bool.false_eq_true]
      have hlo := HRS.out.lo
      refine ⟨rfl, ⟨HRS.out.gl.fr f4 (fun k hk e => by have := HRS.out.lo; omega), HRS.out.rd.fr f4 (by omega), HRS.out.lo⟩, HFR.out.call f4 (fun i hi => .inr (by omega))⟩
end Go.Proofs.YtakgcaehkphepaaGreatDoor
