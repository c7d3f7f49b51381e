/- (*json.reader).text, and what one Json value in memory is. -/
import Derived.Test.YtakgcaehkphepaaGreatDoorJt
import Derived.Handy
namespace Go.Proofs.YtakgcaehkphepaaGreatDoor
open Go.RowKit
set_option linter.unusedVariables false
set_option linter.unusedSimpArgs false
/-- A block of one Json value. -/
def B26 (w : World) (b : Nat) (a0 a1 a2 a3 a4 a5 : Value) : Prop := w.heap[b]? = some (.cells #[a0, a1, a2, a3, a4, a5] 26 (0, 0))
section
variable {w : World} {b : Nat} {a0 a1 a2 a3 a4 a5 : Value} (h : B26 w b a0 a1 a2 a3 a4 a5)
include h
theorem B26.c0 : w.cell? ⟨b, 0, none⟩ = some a0 := by rw [cell_of h]; rfl
theorem B26.c1 : w.cell? ⟨b, 1, none⟩ = some a1 := by rw [cell_of h]; rfl
theorem B26.c2 : w.cell? ⟨b, 2, none⟩ = some a2 := by rw [cell_of h]; rfl
theorem B26.c3 : w.cell? ⟨b, 3, none⟩ = some a3 := by rw [cell_of h]; rfl
theorem B26.c4 : w.cell? ⟨b, 4, none⟩ = some a4 := by rw [cell_of h]; rfl
theorem B26.c5 : w.cell? ⟨b, 5, none⟩ = some a5 := by rw [cell_of h]; rfl
theorem B26.fz (o : Nat) : w.frozen? ⟨b, o, none⟩ = false := frozen_of h o
theorem B26.lt : b < w.heap.size := lt_of h
theorem B26.put (v0 v1 v2 v3 v4 v5 : Value) : B26 ((((((w.setCell ⟨b, 0, none⟩ v0).setCell ⟨b, 1, none⟩ v1).setCell ⟨b, 2, none⟩ v2).setCell ⟨b, 3, none⟩ v3).setCell ⟨b, 4, none⟩ v4).setCell ⟨b, 5, none⟩ v5) b v0 v1 v2 v3 v4 v5 :=
  set_same (set_same (set_same (set_same (set_same (set_same h 0 v0) 1 v1) 2 v2) 3 v3) 4 v4) 5 v5
theorem B26.put4 (v : Value) : B26 (w.setCell ⟨b, 4, none⟩ v) b a0 a1 a2 a3 v a5 := set_same h 4 v
theorem B26.put5 (v : Value) : B26 (w.setCell ⟨b, 5, none⟩ v) b a0 a1 a2 a3 a4 v := set_same h 5 v
theorem B26.fr {m : Nat → Prop} {w' : World} (f : Fr m w w') (hm : ¬ m b) : B26 w' b a0 a1 a2 a3 a4 a5 := f.get h hm
theorem B26.alloc (o : Obj) : B26 (w.alloc o) b a0 a1 a2 a3 a4 a5 := alloc_old h o
end
theorem B26.new (w : World) (a0 a1 a2 a3 a4 a5 : Value) : B26 (w.alloc (.cells #[a0, a1, a2, a3, a4, a5] 26)) w.heap.size a0 a1 a2 a3 a4 a5 := alloc_new w _
theorem fr_put {m : Nat → Prop} {w : World} {b : Nat} (hm : m b) (v0 v1 v2 v3 v4 v5 : Value) : Fr m w ((((((w.setCell ⟨b, 0, none⟩ v0).setCell ⟨b, 1, none⟩ v1).setCell ⟨b, 2, none⟩ v2).setCell ⟨b, 3, none⟩ v3).setCell ⟨b, 4, none⟩ v4).setCell ⟨b, 5, none⟩ v5) :=
  (((((Fr.set' b 0 v0 hm).trans (Fr.set' b 1 v1 hm)).trans (Fr.set' b 2 v2 hm)).trans (Fr.set' b 3 v3 hm)).trans (Fr.set' b 4 v4 hm)).trans (Fr.set' b 5 v5 hm)
theorem put_elim {G : World → Prop} {w : World} {b : Nat} {a0 a1 a2 a3 a4 a5 v0 v1 v2 v3 v4 v5 : Value} (h : B26 w b a0 a1 a2 a3 a4 a5) (k : ∀ w', B26 w' b v0 v1 v2 v3 v4 v5 → Fr (· = b) w w' → G w') :
    G ((((((w.setCell ⟨b, 0, none⟩ v0).setCell ⟨b, 1, none⟩ v1).setCell ⟨b, 2, none⟩ v2).setCell ⟨b, 3, none⟩ v3).setCell ⟨b, 4, none⟩ v4).setCell ⟨b, 5, none⟩ v5) :=
  k _ (h.put _ _ _ _ _ _) (fr_put (m := (· = b)) rfl _ _ _ _ _ _)

theorem ret26 {fn : Func} {t : Tmp} (hf : fn.results = #[.cell t 26]) {tmps : Array Value} {w : World} {b : Nat} {a0 a1 a2 a3 a4 a5 : Value} (ht : tmps[t]?.getD undef = .pointer (some ⟨b, 0, none⟩)) (h : B26 w b a0 a1 a2 a3 a4 a5) :
    (results fn tmps).run Tryz.prog w = .ok (.agg #[a0, a1, a2, a3, a4, a5]) w := by
  have b0 := B26.c0 h
  have b1 := B26.c1 h
  have b2 := B26.c2 h
  have b3 := B26.c3 h
  have b4 := B26.c4 h
  have b5 := B26.c5 h
  have z0 := B26.fz h 0
  have z1 := B26.fz h 1
  have z2 := B26.fz h 2
  have z3 := B26.fz h 3
  have z4 := B26.fz h 4
  have z5 := B26.fz h 5
  simp [results, hf, ht, go_sem, b0, b1, b2, b3, b4, b5]
theorem ret26' {fn : Func} {t u : Tmp} (hf : fn.results = #[.cell t 26, .tmp u]) {tmps : Array Value} {w : World} {b : Nat} {a0 a1 a2 a3 a4 a5 : Value} (ht : tmps[t]?.getD undef = .pointer (some ⟨b, 0, none⟩)) (h : B26 w b a0 a1 a2 a3 a4 a5) :
    (results fn tmps).run Tryz.prog w = .ok (.tuple #[.agg #[a0, a1, a2, a3, a4, a5], tmps.getD u undef]) w := by
  have b0 := B26.c0 h
  have b1 := B26.c1 h
  have b2 := B26.c2 h
  have b3 := B26.c3 h
  have b4 := B26.c4 h
  have b5 := B26.c5 h
  have z0 := B26.fz h 0
  have z1 := B26.fz h 1
  have z2 := B26.fz h 2
  have z3 := B26.fz h 3
  have z4 := B26.fz h 4
  have z5 := B26.fz h 5
  simp [results, hf, ht, go_sem, b0, b1, b2, b3, b4, b5]

set_option maxHeartbeats 1000000 in
set_option maxRecDepth 100000 in
theorem text_c (p : Value) (r : Nat) (c : UInt8) (s : Bs) (d : Int) (o : Option Int) (w : World) (h : RS p w r (c :: s) d o) (hN : s.length ≤ 1073741824) :
    Calls Tryz.prog 48 #[.pointer (some ⟨r, 0, none⟩)] w fun e w' => e = .returned (.agg #[.int .i64 3, .bool false, .int .i64 0, .string (bs (wordM s o).1), .slice none 0 0, .slice none 0 0]) ∧ RS p w' r (wordM s o).2.1 d (wordM s o).2.2 ∧ Fr (· = r) w w' := by
  have R1 := h.alloc (.cells #[.int .i64 0, .bool false, .int .i64 0, .string ⟨#[]⟩, .slice none 0 0, .slice none 0 0] 26 (0, 0))
  have c1 := R1.rd.c0
  have z1 := R1.rd.fz 0
  have hx : (bs (c :: s)).extract 1 (bs (c :: s)).size = bs s := by rw [bs_extract, bs_size]; simp
  have hz : 1 ≤ (bs (c :: s)).size := by rw [bs_size]; simp
  have H := Lib.hid h
  have HR1 := Lib.hid R1
  clear h R1
  go_enter Tryz.func48, Tryz.ntmps48
  go_wp2_with fail
  have HR2 := Lib.hid (HR1.out.next (HR1.out.rd.set0 s) (Fr.set' r 0 _ rfl))
  refine (word_c p r s d o _ HR2.out hN).mono ?_
  rintro e w2 ⟨rfl, R3, f3⟩
  have hb : B26 w2 w.heap.size _ _ _ _ _ _ := f3.get (set_other (alloc_new w _) _ _ (by have := H.out.rd.lt; dsimp only; omega)) (by have := H.out.rd.lt; omega)
  have b0 := B26.c0 hb
  have b1 := B26.c1 hb
  have b2 := B26.c2 hb
  have b3 := B26.c3 hb
  have b4 := B26.c4 hb
  have b5 := B26.c5 hb
  have z0 := B26.fz hb 0
  have z1 := B26.fz hb 1
  have z2 := B26.fz hb 2
  have z3 := B26.fz hb 3
  have z4 := B26.fz hb 4
  have z5 := B26.fz hb 5
  go_wp2
  refine put_elim hb ?_
  intro w3 hb3 f4
  clear b0 b1 b2 b3 b4 b5 z0 z1 z2 z3 z4 z5
  have b0 := B26.c0 hb3
  have b1 := B26.c1 hb3
  have b2 := B26.c2 hb3
  have b3 := B26.c3 hb3
  have b4 := B26.c4 hb3
  have b5 := B26.c5 hb3
  have z0 := B26.fz hb3 0
  have z1 := B26.fz hb3 1
  have z2 := B26.fz hb3 2
  have z3 := B26.fz hb3 3
  have z4 := B26.fz hb3 4
  have z5 := B26.fz hb3 5
  refine bodyPost_ret (ret26 rfl rfl hb3) rfl ?_
  exact ⟨rfl, ⟨R3.gl.fr f4 (fun k hk e => by have := H.out.lo; have := H.out.rd.lt; omega), R3.rd.fr f4 (by have := H.out.rd.lt; omega), R3.lo⟩, ((((Fr.refl (· = r) w).alloc _).trans (Fr.set' r 0 _ rfl)).trans f3).call f4 (fun i hi => .inr (by omega))⟩
end Go.Proofs.YtakgcaehkphepaaGreatDoor
