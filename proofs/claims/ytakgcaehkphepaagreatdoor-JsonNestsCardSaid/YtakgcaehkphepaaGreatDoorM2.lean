/- (*json.reader).value: the map of readers; a literal or a number. -/
import Derived.Test.YtakgcaehkphepaaGreatDoorM1
import Derived.Test.YtakgcaehkphepaaGreatDoorPd
namespace Go.Proofs.YtakgcaehkphepaaGreatDoor
open Go.RowKit
set_option linter.unusedVariables false
set_option linter.unusedSimpArgs false

def valMap (r : Nat) : Array MapEntry := #[⟨.int .u8 91, .func (.func 46) #[.pointer (some ⟨r, 0, none⟩)] #[], 0⟩, ⟨.int .u8 123, .func (.func 47) #[.pointer (some ⟨r, 0, none⟩)] #[], 1⟩, ⟨.int .u8 34, .func (.func 48) #[.pointer (some ⟨r, 0, none⟩)] #[], 2⟩]
theorem Kc.ins0 (r : Nat) (w : World) : (Instr.mapUpdate 67 (.map (some w.heap.size)) (.int .u8 91) (.func (.func 46) #[.pointer (some ⟨r, 0, none⟩)] #[])).run Tryz.prog (w.alloc (.map #[] 0)) = .ok () (w.alloc (.map (#[⟨.int .u8 91, .func (.func 46) #[.pointer (some ⟨r, 0, none⟩)] #[], 0⟩]) 1)) :=
  run_insert_last w #[] 0 _ _ Tryz.underlying67 Tryz.underlying5 (check_u8 _ _ _) (by rfl)
theorem Kc.ins1 (r : Nat) (w : World) : (Instr.mapUpdate 67 (.map (some w.heap.size)) (.int .u8 123) (.func (.func 47) #[.pointer (some ⟨r, 0, none⟩)] #[])).run Tryz.prog (w.alloc (.map #[⟨.int .u8 91, .func (.func 46) #[.pointer (some ⟨r, 0, none⟩)] #[], 0⟩] 1)) = .ok () (w.alloc (.map (#[⟨.int .u8 91, .func (.func 46) #[.pointer (some ⟨r, 0, none⟩)] #[], 0⟩, ⟨.int .u8 123, .func (.func 47) #[.pointer (some ⟨r, 0, none⟩)] #[], 1⟩]) 2)) :=
  run_insert_last w #[⟨.int .u8 91, .func (.func 46) #[.pointer (some ⟨r, 0, none⟩)] #[], 0⟩] 1 _ _ Tryz.underlying67 Tryz.underlying5 (check_u8 _ _ _) (by rfl)
theorem Kc.ins2 (r : Nat) (w : World) : (Instr.mapUpdate 67 (.map (some w.heap.size)) (.int .u8 34) (.func (.func 48) #[.pointer (some ⟨r, 0, none⟩)] #[])).run Tryz.prog (w.alloc (.map #[⟨.int .u8 91, .func (.func 46) #[.pointer (some ⟨r, 0, none⟩)] #[], 0⟩, ⟨.int .u8 123, .func (.func 47) #[.pointer (some ⟨r, 0, none⟩)] #[], 1⟩] 2)) = .ok () (w.alloc (.map (valMap r) 3)) :=
  run_insert_last w #[⟨.int .u8 91, .func (.func 46) #[.pointer (some ⟨r, 0, none⟩)] #[], 0⟩, ⟨.int .u8 123, .func (.func 47) #[.pointer (some ⟨r, 0, none⟩)] #[], 1⟩] 2 _ _ Tryz.underlying67 Tryz.underlying5 (check_u8 _ _ _) (by rfl)
theorem Kc.look0 (r : Nat) (W : World) (m : Nat) (hg : W.heap[m]? = some (.map (valMap r) 3)) : (Instr.lookup 67 (.map (some m)) (.int .u8 91) true).run Tryz.prog W = .ok (.tuple #[.func (.func 46) #[.pointer (some ⟨r, 0, none⟩)] #[], .bool true]) W :=
  run_lookup_at W m (valMap r) 3 _ hg Tryz.underlying67 Tryz.underlying5 (check_u8 _ _ _) 0 _ (by rfl)
theorem Kc.look1 (r : Nat) (W : World) (m : Nat) (hg : W.heap[m]? = some (.map (valMap r) 3)) : (Instr.lookup 67 (.map (some m)) (.int .u8 123) true).run Tryz.prog W = .ok (.tuple #[.func (.func 47) #[.pointer (some ⟨r, 0, none⟩)] #[], .bool true]) W :=
  run_lookup_at W m (valMap r) 3 _ hg Tryz.underlying67 Tryz.underlying5 (check_u8 _ _ _) 1 _ (by rfl)
theorem Kc.look2 (r : Nat) (W : World) (m : Nat) (hg : W.heap[m]? = some (.map (valMap r) 3)) : (Instr.lookup 67 (.map (some m)) (.int .u8 34) true).run Tryz.prog W = .ok (.tuple #[.func (.func 48) #[.pointer (some ⟨r, 0, none⟩)] #[], .bool true]) W :=
  run_lookup_at W m (valMap r) 3 _ hg Tryz.underlying67 Tryz.underlying5 (check_u8 _ _ _) 2 _ (by rfl)
theorem Kc.miss (r : Nat) (W : World) (m : Nat) (hg : W.heap[m]? = some (.map (valMap r) 3)) (c : Int) (h1 : c ≠ 91) (h2 : c ≠ 123) (h3 : c ≠ 34) : (Instr.lookup 67 (.map (some m)) (.int .u8 c) true).run Tryz.prog W = .ok (.tuple #[.nilFunc, .bool false]) W := by
  refine run_lookup_none W m (valMap r) 3 _ _ hg Tryz.underlying67 Tryz.underlying5 (check_u8 _ _ _) ?_ (by kernel_rfl)
  have e1 : ((91 : Int) == c) = false := by simpa using fun e => h1 e.symm
  have e2 : ((123 : Int) == c) = false := by simpa using fun e => h2 e.symm
  have e3 : ((34 : Int) == c) = false := by simpa using fun e => h3 e.symm
  have e1' : (c == (91 : Int)) = false := by simpa using h1
  have e2' : (c == (123 : Int)) = false := by simpa using h2
  have e3' : (c == (34 : Int)) = false := by simpa using h3
  simp [valMap, Instr.findNow, Instr.sameNow, h1, h2, h3, e1, e2, e3, e1', e2', e3']

/-- What a reader of one kind of value does. -/
def ReadOk (p : Value) (d : Int) (fid : Nat) (r : Nat) (s : Bs) (F : J × Bs × Option Int) : Prop :=
  ∀ w : World, RS p w r s d none → Calls Tryz.prog fid #[.pointer (some ⟨r, 0, none⟩)] w fun e w' =>
    ∃ kv lv, e = .returned (jVal F.1 kv lv) ∧ JAt w' (fun k => w.heap.size ≤ k) F.1 kv lv ∧ RS p w' r F.2.1 d F.2.2 ∧ Fr (· = r) w w'

set_option maxHeartbeats 4000000 in
set_option maxRecDepth 100000 in
theorem value_hit0 (p : Value) (d : Int) (r : Nat) (s : Bs) (F : J × Bs × Option Int) (hc : first s = 91) (H : ReadOk p d 46 r s F) (w : World) (h : RS p w r s d none) :
    Calls Tryz.prog 28 #[.pointer (some ⟨r, 0, none⟩)] w fun e w' =>
      ∃ kv lv, e = .returned (jVal F.1 kv lv) ∧ JAt w' (fun k => w.heap.size ≤ k) F.1 kv lv ∧ RS p w' r F.2.1 d F.2.2 ∧ Fr (· = r) w w' := by
  have hmm := @run_makeMap Tryz.prog
  have hmf : ∀ (fn : Fn) (first cap : Array Value) (w : World), (Instr.makeFunc fn first cap).run Tryz.prog w = .ok (.func fn first cap) w := fun _ _ _ _ => rfl
  have HR1 := Lib.hid (h.alloc (.cells #[.int .i64 0, .bool false, .int .i64 0, .string ⟨#[]⟩, .slice none 0 0, .slice none 0 0] 26 (0, 0)))
  have HB1 := Lib.hid (B26.new w (.int .i64 0) (.bool false) (.int .i64 0) (.string ⟨#[]⟩) (.slice none 0 0) (.slice none 0 0))
  have HF1 := Lib.hid ((Fr.refl (· = r) w).alloc (.cells #[.int .i64 0, .bool false, .int .i64 0, .string ⟨#[]⟩, .slice none 0 0, .slice none 0 0] 26 (0, 0)))
  have hs1 : (w.alloc (.cells #[.int .i64 0, .bool false, .int .i64 0, .string ⟨#[]⟩, .slice none 0 0, .slice none 0 0] 26 (0, 0))).heap.size = w.heap.size + 1 := by simp
  have hr := h.rd.lt
  have hlo := h.lo
  have HC := Lib.hid hc
  have HH := Lib.hid H
  clear h hc H
  go_enter Tryz.func28, Tryz.ntmps28
  go_upto_region 1 with (fail)
  obtain ⟨w1, hw1⟩ : ∃ w1, w.alloc (.cells #[.int .i64 0, .bool false, .int .i64 0, .string ⟨#[]⟩, .slice none 0 0, .slice none 0 0] 26) = w1 := ⟨_, rfl⟩
  rw [hw1] at HR1 HB1 HF1 hs1 ⊢
  have HS1 := Lib.hid hs1
  clear hw1 hs1
  have i0 := Kc.ins0 r w1
  have i1 := Kc.ins1 r w1
  have i2 := Kc.ins2 r w1
  have lk := Kc.look0 r (w1.alloc (.map (valMap r) 3)) w1.heap.size (alloc_new w1 _)
  go_wp2_with fail
  have HR2 := Lib.hid (HR1.out.alloc (.map (valMap r) 3))
  have HF2 := Lib.hid (HF1.out.alloc (.map (valMap r) 3))
  have HB2 := Lib.hid (HB1.out.alloc (.map (valMap r) 3))
  refine (first_c r s d _ _ HR2.out.rd).mono ?_
  rintro e w2 ⟨rfl, rfl⟩
  rw [HC.out]
  go_wp2_with fail
  refine (HH.out _ HR2.out).mono ?_
  rintro e w3 ⟨kv, lv, rfl, T3, R3, f3⟩
  obtain ⟨jA, jn, jc, jA', jn', jc', rfl, rfl⟩ := T3.form
  have hb := HB2.out.fr f3 (by omega)
  have b0 := hb.c0
  have b1 := hb.c1
  have b2 := hb.c2
  have b3 := hb.c3
  have b4 := hb.c4
  have b5 := hb.c5
  have z0 := hb.fz 0
  have z1 := hb.fz 1
  have z2 := hb.fz 2
  have z3 := hb.fz 3
  have z4 := hb.fz 4
  have z5 := hb.fz 5
  have HT := Lib.hid T3
  have HR3 := Lib.hid R3
  have HF3 := Lib.hid f3
  have HB3 := Lib.hid hb
  have HS2 := Lib.hid (show w.heap.size + 2 = (w1.alloc (.map (valMap r) 3)).heap.size by have := HS1.out; simp; omega)
  clear T3 R3 f3 hb i0 i1 i2 lk
  unfold jVal
  go_wp2
  refine put_elim HB3.out ?_
  intro w4 hb4 f4
  refine bodyPost_ret (ret26 rfl rfl hb4) rfl ?_
  have hs2 := HS2.out
  exact ⟨_, _, rfl, (HT.out.fr f4 (fun k hk e => by omega)).mono (fun k hk _ => by omega), ⟨HR3.out.gl.fr f4 (fun k hk e => by omega), HR3.out.rd.fr f4 (by omega), hlo⟩, (HF2.out.trans HF3.out).call f4 (fun i hi => .inr (by omega))⟩

set_option maxHeartbeats 4000000 in
set_option maxRecDepth 100000 in
theorem value_hit1 (p : Value) (d : Int) (r : Nat) (s : Bs) (F : J × Bs × Option Int) (hc : first s = 123) (H : ReadOk p d 47 r s F) (w : World) (h : RS p w r s d none) :
    Calls Tryz.prog 28 #[.pointer (some ⟨r, 0, none⟩)] w fun e w' =>
      ∃ kv lv, e = .returned (jVal F.1 kv lv) ∧ JAt w' (fun k => w.heap.size ≤ k) F.1 kv lv ∧ RS p w' r F.2.1 d F.2.2 ∧ Fr (· = r) w w' := by
  have hmm := @run_makeMap Tryz.prog
  have hmf : ∀ (fn : Fn) (first cap : Array Value) (w : World), (Instr.makeFunc fn first cap).run Tryz.prog w = .ok (.func fn first cap) w := fun _ _ _ _ => rfl
  have HR1 := Lib.hid (h.alloc (.cells #[.int .i64 0, .bool false, .int .i64 0, .string ⟨#[]⟩, .slice none 0 0, .slice none 0 0] 26 (0, 0)))
  have HB1 := Lib.hid (B26.new w (.int .i64 0) (.bool false) (.int .i64 0) (.string ⟨#[]⟩) (.slice none 0 0) (.slice none 0 0))
  have HF1 := Lib.hid ((Fr.refl (· = r) w).alloc (.cells #[.int .i64 0, .bool false, .int .i64 0, .string ⟨#[]⟩, .slice none 0 0, .slice none 0 0] 26 (0, 0)))
  have hs1 : (w.alloc (.cells #[.int .i64 0, .bool false, .int .i64 0, .string ⟨#[]⟩, .slice none 0 0, .slice none 0 0] 26 (0, 0))).heap.size = w.heap.size + 1 := by simp
  have hr := h.rd.lt
  have hlo := h.lo
  have HC := Lib.hid hc
  have HH := Lib.hid H
  clear h hc H
  go_enter Tryz.func28, Tryz.ntmps28
  go_upto_region 1 with (fail)
  obtain ⟨w1, hw1⟩ : ∃ w1, w.alloc (.cells #[.int .i64 0, .bool false, .int .i64 0, .string ⟨#[]⟩, .slice none 0 0, .slice none 0 0] 26) = w1 := ⟨_, rfl⟩
  rw [hw1] at HR1 HB1 HF1 hs1 ⊢
  have HS1 := Lib.hid hs1
  clear hw1 hs1
  have i0 := Kc.ins0 r w1
  have i1 := Kc.ins1 r w1
  have i2 := Kc.ins2 r w1
  have lk := Kc.look1 r (w1.alloc (.map (valMap r) 3)) w1.heap.size (alloc_new w1 _)
  go_wp2_with fail
  have HR2 := Lib.hid (HR1.out.alloc (.map (valMap r) 3))
  have HF2 := Lib.hid (HF1.out.alloc (.map (valMap r) 3))
  have HB2 := Lib.hid (HB1.out.alloc (.map (valMap r) 3))
  refine (first_c r s d _ _ HR2.out.rd).mono ?_
  rintro e w2 ⟨rfl, rfl⟩
  rw [HC.out]
  go_wp2_with fail
  refine (HH.out _ HR2.out).mono ?_
  rintro e w3 ⟨kv, lv, rfl, T3, R3, f3⟩
  obtain ⟨jA, jn, jc, jA', jn', jc', rfl, rfl⟩ := T3.form
  have hb := HB2.out.fr f3 (by omega)
  have b0 := hb.c0
  have b1 := hb.c1
  have b2 := hb.c2
  have b3 := hb.c3
  have b4 := hb.c4
  have b5 := hb.c5
  have z0 := hb.fz 0
  have z1 := hb.fz 1
  have z2 := hb.fz 2
  have z3 := hb.fz 3
  have z4 := hb.fz 4
  have z5 := hb.fz 5
  have HT := Lib.hid T3
  have HR3 := Lib.hid R3
  have HF3 := Lib.hid f3
  have HB3 := Lib.hid hb
  have HS2 := Lib.hid (show w.heap.size + 2 = (w1.alloc (.map (valMap r) 3)).heap.size by have := HS1.out; simp; omega)
  clear T3 R3 f3 hb i0 i1 i2 lk
  unfold jVal
  go_wp2
  refine put_elim HB3.out ?_
  intro w4 hb4 f4
  refine bodyPost_ret (ret26 rfl rfl hb4) rfl ?_
  have hs2 := HS2.out
  exact ⟨_, _, rfl, (HT.out.fr f4 (fun k hk e => by omega)).mono (fun k hk _ => by omega), ⟨HR3.out.gl.fr f4 (fun k hk e => by omega), HR3.out.rd.fr f4 (by omega), hlo⟩, (HF2.out.trans HF3.out).call f4 (fun i hi => .inr (by omega))⟩

set_option maxHeartbeats 4000000 in
set_option maxRecDepth 100000 in
theorem value_hit2 (p : Value) (d : Int) (r : Nat) (s : Bs) (F : J × Bs × Option Int) (hc : first s = 34) (H : ReadOk p d 48 r s F) (w : World) (h : RS p w r s d none) :
    Calls Tryz.prog 28 #[.pointer (some ⟨r, 0, none⟩)] w fun e w' =>
      ∃ kv lv, e = .returned (jVal F.1 kv lv) ∧ JAt w' (fun k => w.heap.size ≤ k) F.1 kv lv ∧ RS p w' r F.2.1 d F.2.2 ∧ Fr (· = r) w w' := by
  have hmm := @run_makeMap Tryz.prog
  have hmf : ∀ (fn : Fn) (first cap : Array Value) (w : World), (Instr.makeFunc fn first cap).run Tryz.prog w = .ok (.func fn first cap) w := fun _ _ _ _ => rfl
  have HR1 := Lib.hid (h.alloc (.cells #[.int .i64 0, .bool false, .int .i64 0, .string ⟨#[]⟩, .slice none 0 0, .slice none 0 0] 26 (0, 0)))
  have HB1 := Lib.hid (B26.new w (.int .i64 0) (.bool false) (.int .i64 0) (.string ⟨#[]⟩) (.slice none 0 0) (.slice none 0 0))
  have HF1 := Lib.hid ((Fr.refl (· = r) w).alloc (.cells #[.int .i64 0, .bool false, .int .i64 0, .string ⟨#[]⟩, .slice none 0 0, .slice none 0 0] 26 (0, 0)))
  have hs1 : (w.alloc (.cells #[.int .i64 0, .bool false, .int .i64 0, .string ⟨#[]⟩, .slice none 0 0, .slice none 0 0] 26 (0, 0))).heap.size = w.heap.size + 1 := by simp
  have hr := h.rd.lt
  have hlo := h.lo
  have HC := Lib.hid hc
  have HH := Lib.hid H
  clear h hc H
  go_enter Tryz.func28, Tryz.ntmps28
  go_upto_region 1 with (fail)
  obtain ⟨w1, hw1⟩ : ∃ w1, w.alloc (.cells #[.int .i64 0, .bool false, .int .i64 0, .string ⟨#[]⟩, .slice none 0 0, .slice none 0 0] 26) = w1 := ⟨_, rfl⟩
  rw [hw1] at HR1 HB1 HF1 hs1 ⊢
  have HS1 := Lib.hid hs1
  clear hw1 hs1
  have i0 := Kc.ins0 r w1
  have i1 := Kc.ins1 r w1
  have i2 := Kc.ins2 r w1
  have lk := Kc.look2 r (w1.alloc (.map (valMap r) 3)) w1.heap.size (alloc_new w1 _)
  go_wp2_with fail
  have HR2 := Lib.hid (HR1.out.alloc (.map (valMap r) 3))
  have HF2 := Lib.hid (HF1.out.alloc (.map (valMap r) 3))
  have HB2 := Lib.hid (HB1.out.alloc (.map (valMap r) 3))
  refine (first_c r s d _ _ HR2.out.rd).mono ?_
  rintro e w2 ⟨rfl, rfl⟩
  rw [HC.out]
  go_wp2_with fail
  refine (HH.out _ HR2.out).mono ?_
  rintro e w3 ⟨kv, lv, rfl, T3, R3, f3⟩
  obtain ⟨jA, jn, jc, jA', jn', jc', rfl, rfl⟩ := T3.form
  have hb := HB2.out.fr f3 (by omega)
  have b0 := hb.c0
  have b1 := hb.c1
  have b2 := hb.c2
  have b3 := hb.c3
  have b4 := hb.c4
  have b5 := hb.c5
  have z0 := hb.fz 0
  have z1 := hb.fz 1
  have z2 := hb.fz 2
  have z3 := hb.fz 3
  have z4 := hb.fz 4
  have z5 := hb.fz 5
  have HT := Lib.hid T3
  have HR3 := Lib.hid R3
  have HF3 := Lib.hid f3
  have HB3 := Lib.hid hb
  have HS2 := Lib.hid (show w.heap.size + 2 = (w1.alloc (.map (valMap r) 3)).heap.size by have := HS1.out; simp; omega)
  clear T3 R3 f3 hb i0 i1 i2 lk
  unfold jVal
  go_wp2
  refine put_elim HB3.out ?_
  intro w4 hb4 f4
  refine bodyPost_ret (ret26 rfl rfl hb4) rfl ?_
  have hs2 := HS2.out
  exact ⟨_, _, rfl, (HT.out.fr f4 (fun k hk e => by omega)).mono (fun k hk _ => by omega), ⟨HR3.out.gl.fr f4 (fun k hk e => by omega), HR3.out.rd.fr f4 (by omega), hlo⟩, (HF2.out.trans HF3.out).call f4 (fun i hi => .inr (by omega))⟩

set_option maxHeartbeats 4000000 in
set_option maxRecDepth 100000 in
theorem value_leaf (p : Value) (d : Int) (r : Nat) (s : Bs) (h1 : first s ≠ 91) (h2 : first s ≠ 123) (h3 : first s ≠ 34) (hN : s.length ≤ 1000000000) (w : World) (h : RS p w r s d none) :
    Calls Tryz.prog 28 #[.pointer (some ⟨r, 0, none⟩)] w fun e w' =>
      ∃ kv lv, e = .returned (jVal (leafM s).1 kv lv) ∧ JAt w' (fun k => w.heap.size ≤ k) (leafM s).1 kv lv ∧ RS p w' r (leafM s).2.1 d (leafM s).2.2 ∧ Fr (· = r) w w' := by
  have hmm := @run_makeMap Tryz.prog
  have hmf : ∀ (fn : Fn) (first cap : Array Value) (w : World), (Instr.makeFunc fn first cap).run Tryz.prog w = .ok (.func fn first cap) w := fun _ _ _ _ => rfl
  have HR1 := Lib.hid (h.alloc (.cells #[.int .i64 0, .bool false, .int .i64 0, .string ⟨#[]⟩, .slice none 0 0, .slice none 0 0] 26 (0, 0)))
  have HB1 := Lib.hid (B26.new w (.int .i64 0) (.bool false) (.int .i64 0) (.string ⟨#[]⟩) (.slice none 0 0) (.slice none 0 0))
  have HF1 := Lib.hid ((Fr.refl (· = r) w).alloc (.cells #[.int .i64 0, .bool false, .int .i64 0, .string ⟨#[]⟩, .slice none 0 0, .slice none 0 0] 26 (0, 0)))
  have hs1 : (w.alloc (.cells #[.int .i64 0, .bool false, .int .i64 0, .string ⟨#[]⟩, .slice none 0 0, .slice none 0 0] 26 (0, 0))).heap.size = w.heap.size + 1 := by simp
  have hr := h.rd.lt
  have hlo := h.lo
  obtain ⟨FV, hFV⟩ : ∃ FV, leafM s = FV := ⟨_, rfl⟩
  have hl := hFV
  unfold leafM at hl
  rw [if_neg h3] at hl
  rw [hFV]
  have HL := Lib.hid hl
  have H1 := Lib.hid h1
  have H2 := Lib.hid h2
  have H3 := Lib.hid h3
  clear h hl h1 h2 h3 hFV
  obtain ⟨c, hc⟩ : ∃ c, first s = c := ⟨_, rfl⟩
  have HC := Lib.hid hc
  rw [hc] at H1 H2 H3
  clear hc
  go_enter Tryz.func28, Tryz.ntmps28
  go_upto_region 1 with (fail)
  obtain ⟨w1, hw1⟩ : ∃ w1, w.alloc (.cells #[.int .i64 0, .bool false, .int .i64 0, .string ⟨#[]⟩, .slice none 0 0, .slice none 0 0] 26) = w1 := ⟨_, rfl⟩
  rw [hw1] at HR1 HB1 HF1 hs1 ⊢
  have HS1 := Lib.hid hs1
  clear hw1 hs1
  have i0 := Kc.ins0 r w1
  have i1 := Kc.ins1 r w1
  have i2 := Kc.ins2 r w1
  have lk := Kc.miss r (w1.alloc (.map (valMap r) 3)) w1.heap.size (alloc_new w1 _) c H1.out H2.out H3.out
  go_wp2_with fail
  have HR2 := Lib.hid (HR1.out.alloc (.map (valMap r) 3))
  have HF2 := Lib.hid (HF1.out.alloc (.map (valMap r) 3))
  have HB2 := Lib.hid (HB1.out.alloc (.map (valMap r) 3))
  refine (first_c r s d _ _ HR2.out.rd).mono ?_
  rintro e w2 ⟨rfl, rfl⟩
  rw [HC.out]
  go_wp2_with fail
  have HS2 := Lib.hid (show w.heap.size + 2 = (w1.alloc (.map (valMap r) 3)).heap.size by have := HS1.out; simp; omega)
  have RR3 := HR2.out.alloc (.cells #[.string (bs sNull), .string (bs sTrue), .string (bs sFalse)] 9 (0, 0))
  have hg0 : ((w1.alloc (.map (valMap r) 3)).alloc (.cells #[.string (bs sNull), .string (bs sTrue), .string (bs sFalse)] 9 (0, 0))).heap[w.heap.size + 2]? = some (.cells #[.string (bs sNull), .string (bs sTrue), .string (bs sFalse)] 9 (0, 0)) := alloc_at _ HS2.out
  have FF3 := HF2.out.alloc (.cells #[.string (bs sNull), .string (bs sTrue), .string (bs sFalse)] 9 (0, 0))
  have BB3 := HB2.out.alloc (.cells #[.string (bs sNull), .string (bs sTrue), .string (bs sFalse)] 9 (0, 0))
  have HR3 := Lib.hid RR3
  have HG3 := Lib.hid hg0
  have HF3 := Lib.hid FF3
  have HB3 := Lib.hid BB3
  have hs3 : w.heap.size + 3 = ((w1.alloc (.map (valMap r) 3)).alloc (.cells #[.string (bs sNull), .string (bs sTrue), .string (bs sFalse)] 9 (0, 0))).heap.size := by have := HS2.out; simp at this ⊢; omega
  have HS3 := Lib.hid hs3
  clear RR3 hg0 FF3 BB3 hs3 i0 i1 i2 lk
  have hsz : w1.heap.size + 1 = w.heap.size + 2 := by have := HS1.out; omega
  refine (literal_c p r s d none (w1.heap.size + 1) _ HR3.out (by rw [hsz]; exact HG3.out) (by omega)).mono ?_
  rintro e w4 ⟨he, R4, f4⟩
  have hb4 := HB3.out.fr f4 (by omega)
  have F4 := HF3.out.trans f4
  have hs4 : w.heap.size + 3 ≤ w4.heap.size := by have := HS3.out; have := f4.size; omega
  have hl := HL.out
  cases hp0 : sNull.isPrefixOf s with
  | true =>
    rw [hp0] at hl he R4
    simp only [if_true] at hl he R4
    subst he
    have HE := Lib.hid hl
    have HF4 := Lib.hid (F4.alloc (.cells #[.int .i64 0, .bool false, .int .i64 0, .string (bs []), .slice none 0 0, .slice none 0 0] 26 (0, 0)))
    have HR4 := Lib.hid (R4.alloc (.cells #[.int .i64 0, .bool false, .int .i64 0, .string (bs []), .slice none 0 0, .slice none 0 0] 26 (0, 0)))
    have hb := hb4.alloc (.cells #[.int .i64 0, .bool false, .int .i64 0, .string (bs []), .slice none 0 0, .slice none 0 0] 26 (0, 0))
    have b0 := hb.c0
    have b1 := hb.c1
    have b2 := hb.c2
    have b3 := hb.c3
    have b4 := hb.c4
    have b5 := hb.c5
    have z0 := hb.fz 0
    have z1 := hb.fz 1
    have z2 := hb.fz 2
    have z3 := hb.fz 3
    have z4 := hb.fz 4
    have z5 := hb.fz 5
    have HB4 := Lib.hid hb
    have nf := Nat.ne_of_gt (Nat.lt_of_lt_of_le (show w.heap.size < w.heap.size + 3 by omega) hs4)
    clear hl R4 F4 hb4 hb f4
    unfold jv
    go_wp2
    refine put_elim HB4.out ?_
    intro w6 hb6 f6
    refine bodyPost_ret (ret26 rfl rfl hb6) rfl ?_
    rw [← HE.out]
    exact ⟨.slice none 0 0, .slice none 0 0, rfl, JAt.nil _ _ _ _ _ _, ⟨HR4.out.gl.fr f6 (fun k hk e => by omega), HR4.out.rd.fr f6 (by omega), hlo⟩, HF4.out.call f6 (fun i hi => .inr (by omega))⟩
  | false =>
    rw [hp0] at hl he R4
    simp only [Bool.false_eq_true, if_false] at hl he R4
    cases hp1 : sTrue.isPrefixOf s with
    | true =>
      rw [hp1] at hl he R4
      simp only [if_true] at hl he R4
      subst he
      have HE := Lib.hid hl
      have HF4 := Lib.hid (F4.alloc (.cells #[.int .i64 1, .bool true, .int .i64 0, .string (bs []), .slice none 0 0, .slice none 0 0] 26 (0, 0)))
      have HR4 := Lib.hid (R4.alloc (.cells #[.int .i64 1, .bool true, .int .i64 0, .string (bs []), .slice none 0 0, .slice none 0 0] 26 (0, 0)))
      have hb := hb4.alloc (.cells #[.int .i64 1, .bool true, .int .i64 0, .string (bs []), .slice none 0 0, .slice none 0 0] 26 (0, 0))
      have b0 := hb.c0
      have b1 := hb.c1
      have b2 := hb.c2
      have b3 := hb.c3
      have b4 := hb.c4
      have b5 := hb.c5
      have z0 := hb.fz 0
      have z1 := hb.fz 1
      have z2 := hb.fz 2
      have z3 := hb.fz 3
      have z4 := hb.fz 4
      have z5 := hb.fz 5
      have HB4 := Lib.hid hb
      have nf := Nat.ne_of_gt (Nat.lt_of_lt_of_le (show w.heap.size < w.heap.size + 3 by omega) hs4)
      clear hl R4 F4 hb4 hb f4
      unfold jv
      go_wp2
      refine put_elim HB4.out ?_
      intro w6 hb6 f6
      refine bodyPost_ret (ret26 rfl rfl hb6) rfl ?_
      rw [← HE.out]
      exact ⟨.slice none 0 0, .slice none 0 0, rfl, JAt.nil _ _ _ _ _ _, ⟨HR4.out.gl.fr f6 (fun k hk e => by omega), HR4.out.rd.fr f6 (by omega), hlo⟩, HF4.out.call f6 (fun i hi => .inr (by omega))⟩
    | false =>
      rw [hp1] at hl he R4
      simp only [Bool.false_eq_true, if_false] at hl he R4
      cases hp2 : sFalse.isPrefixOf s with
      | true =>
        rw [hp2] at hl he R4
        simp only [if_true] at hl he R4
        subst he
        have HE := Lib.hid hl
        have HF4 := Lib.hid (F4.alloc (.cells #[.int .i64 1, .bool false, .int .i64 0, .string (bs []), .slice none 0 0, .slice none 0 0] 26 (0, 0)))
        have HR4 := Lib.hid (R4.alloc (.cells #[.int .i64 1, .bool false, .int .i64 0, .string (bs []), .slice none 0 0, .slice none 0 0] 26 (0, 0)))
        have hb := hb4.alloc (.cells #[.int .i64 1, .bool false, .int .i64 0, .string (bs []), .slice none 0 0, .slice none 0 0] 26 (0, 0))
        have b0 := hb.c0
        have b1 := hb.c1
        have b2 := hb.c2
        have b3 := hb.c3
        have b4 := hb.c4
        have b5 := hb.c5
        have z0 := hb.fz 0
        have z1 := hb.fz 1
        have z2 := hb.fz 2
        have z3 := hb.fz 3
        have z4 := hb.fz 4
        have z5 := hb.fz 5
        have HB4 := Lib.hid hb
        have nf := Nat.ne_of_gt (Nat.lt_of_lt_of_le (show w.heap.size < w.heap.size + 3 by omega) hs4)
        clear hl R4 F4 hb4 hb f4
        unfold jv
        go_wp2
        refine put_elim HB4.out ?_
        intro w6 hb6 f6
        refine bodyPost_ret (ret26 rfl rfl hb6) rfl ?_
        rw [← HE.out]
        exact ⟨.slice none 0 0, .slice none 0 0, rfl, JAt.nil _ _ _ _ _ _, ⟨HR4.out.gl.fr f6 (fun k hk e => by omega), HR4.out.rd.fr f6 (by omega), hlo⟩, HF4.out.call f6 (fun i hi => .inr (by omega))⟩
      | false =>
        rw [hp2] at hl he R4
        simp only [Bool.false_eq_true, if_false] at hl he R4
        subst he
        have HE := Lib.hid hl
        have HR4 := Lib.hid (R4.alloc (.cells #[.int .i64 0, .bool false, .int .i64 0, .string ⟨#[]⟩, .slice none 0 0, .slice none 0 0] 26 (0, 0)))
        have HF4 := Lib.hid (F4.alloc (.cells #[.int .i64 0, .bool false, .int .i64 0, .string ⟨#[]⟩, .slice none 0 0, .slice none 0 0] 26 (0, 0)))
        have HB4 := Lib.hid (hb4.alloc (.cells #[.int .i64 0, .bool false, .int .i64 0, .string ⟨#[]⟩, .slice none 0 0, .slice none 0 0] 26 (0, 0)))
        clear hl R4 F4 hb4 f4 hp0 hp1 hp2
        unfold jv
        go_wp2_with fail
        refine (digit_c p r s d none _ HR4.out (by omega)).mono ?_
        rintro e w5 ⟨rfl, R5, f5⟩
        have hb := HB4.out.fr f5 (by omega)
        have b0 := hb.c0
        have b1 := hb.c1
        have b2 := hb.c2
        have b3 := hb.c3
        have b4 := hb.c4
        have b5 := hb.c5
        have z0 := hb.fz 0
        have z1 := hb.fz 1
        have z2 := hb.fz 2
        have z3 := hb.fz 3
        have z4 := hb.fz 4
        have z5 := hb.fz 5
        have HB5 := Lib.hid hb
        have HR5 := Lib.hid R5
        have HF5 := Lib.hid (HF4.out.trans f5)
        clear hb R5 f5
        unfold jv
        go_wp2
        refine put_elim HB5.out ?_
        intro w6 hb6 f6
        refine bodyPost_ret (ret26 rfl rfl hb6) rfl ?_
        rw [← HE.out]
        refine ⟨.slice none 0 0, .slice none 0 0, rfl, JAt.nil _ _ _ _ _ _, ⟨HR5.out.gl.fr f6 (fun k hk e => by omega), HR5.out.rd.fr f6 (by omega), hlo⟩, HF5.out.call f6 (fun i hi => .inr (by omega))⟩
end Go.Proofs.YtakgcaehkphepaaGreatDoor

/- (*json.reader).value whole, by how much may nest. -/
namespace Go.Proofs.YtakgcaehkphepaaGreatDoor
open Go.RowKit
set_option linter.unusedVariables false
set_option linter.unusedSimpArgs false

/-! ### What is left is no longer -/
theorem itemsLoop_len (v : Bs → J × Bs × Option Int) (hv : ∀ s, (v s).2.1.length ≤ s.length) (kind : Int) (cl : UInt8) : ∀ (g : Nat) (s : Bs) (o : Option Int) (ks : List Bs) (l : List J), (itemsLoop v kind cl g s o ks l).2.1.length ≤ s.length
  | 0, s, o, ks, l => Nat.le_refl _
  | g + 1, s, some y, ks, l => Nat.le_refl _
  | g + 1, s, none, ks, l => by
    simp only [itemsLoop]
    have h1 := (roundK_len kind s ks).1
    generalize roundK kind s ks = RK at h1
    have h2 : ∀ (o : Option Int) l', (roundV v RK.2.1 o l').2.1.length ≤ RK.2.1.length := by
      intro o l'
      cases o with
      | none => exact hv _
      | some y => exact Nat.le_refl _
    have h2 := h2 RK.2.2 l
    generalize roundV v RK.2.1 RK.2.2 l = RV at h2
    obtain ⟨l', s', o'⟩ := RV
    have h3 := skipB_len s'
    simp only at h2
    cases o' with
    | some y => simp only; omega
    | none =>
      simp only
      split
      · simp only [List.length_drop]; omega
      · split
        · have := itemsLoop_len v hv kind cl g ((skipB s').drop 1) none RK.1 l'
          rw [List.length_drop] at this
          omega
        · simp only; omega
theorem itemsM_len (v : Bs → J × Bs × Option Int) (hv : ∀ s, (v s).2.1.length ≤ s.length) (kind : Int) (cl : UInt8) (s : Bs) : (itemsM v kind cl s).2.1.length ≤ s.length := by
  have h := skipB_len s
  unfold itemsM
  split
  · simp only [List.length_drop]; omega
  · have := itemsLoop_len v hv kind cl ((skipB s).length + 1) (skipB s) none [] []
    omega
theorem leafM_len (s : Bs) : (leafM s).2.1.length ≤ s.length := by
  unfold leafM
  split
  · have := runesM_len ((s.drop 1).length + 1) (s.drop 1) none []
    rw [show runesM ((s.drop 1).length + 1) (s.drop 1) none [] = wordM (s.drop 1) none from rfl] at this
    rw [List.length_drop] at this
    simp only [List.length_nil] at this
    simp only
    omega
  · repeat' split
    all_goals simp only [List.length_drop]; omega
theorem valM_len : ∀ (k : Nat) (s : Bs), (valM k s).2.1.length ≤ s.length
  | 0, s => by
    simp only [valM]
    split
    · exact Nat.le_refl _
    · split
      · exact Nat.le_refl _
      · exact leafM_len s
  | k + 1, s => by
    simp only [valM]
    split
    · have := itemsM_len (valM k) (valM_len k) 4 93 (s.drop 1)
      rw [List.length_drop] at this; omega
    · split
      · have := itemsM_len (valM k) (valM_len k) 5 125 (s.drop 1)
        rw [List.length_drop] at this; omega
      · exact leafM_len s

/-! ### By how much may nest -/
theorem items_ok (p : Value) (d : Int) (hd : 0 ≤ d) (hd' : d < 64) (val : Bs → J × Bs × Option Int) (hvl : ∀ s, (val s).2.1.length ≤ s.length) (HV : ValOk p (d + 1) val) (kind : Int) (hkind : kind = 4 ∨ kind = 5) (cl : UInt8) :
    ItemsOk p d kind cl fun s => itemsM val kind cl (s.drop 1) := by
  intro r s w h hN h0
  obtain ⟨c, t, rfl⟩ : ∃ c t, s = c :: t := by
    cases s with
    | nil => simp at h0
    | cons c t => exact ⟨c, t, rfl⟩
  refine (items_c p d hd hd' val hvl HV kind hkind cl r c t w h (by simp at hN; omega)).mono ?_
  rintro e w' ⟨kv, lv, he, hT, hR, hF⟩
  simp only [List.drop_one, List.tail_cons]
  unfold itemsM
  by_cases hp : List.isPrefixOf [cl] (skipB t) = true
  · rw [if_pos hp] at he hT ⊢
    rw [if_pos hp, if_pos hp] at hR
    exact ⟨kv, lv, he, hT, hR, hF⟩
  · rw [if_neg hp] at he hT ⊢
    rw [if_neg hp, if_neg hp] at hR
    exact ⟨kv, lv, he, hT, hR, hF⟩
theorem items_no (p : Value) (kind : Int) (cl : UInt8) : ItemsOk p 64 kind cl fun s => (emptyJ kind [] [], s, some 151) := by
  intro r s w h hN h0
  refine (items_deep p kind cl r s w h).mono ?_
  rintro e w' ⟨he, hR, hF⟩
  exact ⟨.slice none 0 0, .slice none 0 0, he, JAt.nil _ _ _ _ _ _, hR, hF⟩
theorem first_pos {s : Bs} {c : Int} (h : first s = c) (hc : c ≠ 0) : ∃ a t, s = a :: t := by
  cases s with
  | nil => exact absurd h (by rw [show first [] = 0 from rfl]; exact fun e => hc e.symm)
  | cons a b => exact ⟨a, b, rfl⟩
theorem value_by (p : Value) (d : Int) (fl fo : Bs → J × Bs × Option Int) (hl : ItemsOk p d 4 93 fl) (ho : ItemsOk p d 5 125 fo) :
    ValOk p d fun s => if first s = 91 then fl s else if first s = 123 then fo s else leafM s := by
  intro r s w h hN
  by_cases h1 : first s = 91
  · simp only [if_pos h1]
    obtain ⟨a, t, rfl⟩ := first_pos h1 (by decide)
    exact value_hit0 p d r _ (fl (a :: t)) h1 (fun w h => list_c p d fl hl r _ w h hN (by simp)) w h
  · simp only [if_neg h1]
    by_cases h2 : first s = 123
    · simp only [if_pos h2]
      obtain ⟨a, t, rfl⟩ := first_pos h2 (by decide)
      exact value_hit1 p d r _ (fo (a :: t)) h2 (fun w h => object_c p d fo ho r _ w h hN (by simp)) w h
    · simp only [if_neg h2]
      by_cases h3 : first s = 34
      · obtain ⟨a, t, rfl⟩ := first_pos h3 (by decide)
        refine value_hit2 p d r _ (leafM (a :: t)) h3 (fun w h => ?_) w h
        refine (text_c p r a t d none w h (by simp at hN; omega)).mono ?_
        rintro e w' ⟨he, hR, hF⟩
        unfold leafM
        rw [if_pos h3]
        exact ⟨.slice none 0 0, .slice none 0 0, he, JAt.nil _ _ _ _ _ _, hR, hF⟩
      · exact value_leaf p d r s h1 h2 h3 hN w h
theorem value_c (p : Value) : ∀ (k : Nat) (d : Int), 0 ≤ d → d + k = 64 → ValOk p d (valM k)
  | 0, d, hd, hk => by
    obtain rfl : d = 64 := by simpa using hk
    intro r s w h hN
    have := value_by p 64 _ _ (items_no p 4 93) (items_no p 5 125) r s w h hN
    exact this
  | k + 1, d, hd, hk => by
    have ih := value_c p k (d + 1) (by omega) (by push_cast at hk; omega)
    have hd' : d < 64 := by push_cast at hk; omega
    intro r s w h hN
    have := value_by p d _ _ (items_ok p d hd hd' (valM k) (valM_len k) ih 4 (.inl rfl) 93) (items_ok p d hd hd' (valM k) (valM_len k) ih 5 (.inr rfl) 125) r s w h hN
    exact this
end Go.Proofs.YtakgcaehkphepaaGreatDoor

/- json.Parse. -/
namespace Go.Proofs.YtakgcaehkphepaaGreatDoor
open Go.RowKit
set_option linter.unusedVariables false
set_option linter.unusedSimpArgs false

set_option maxHeartbeats 4000000 in
set_option maxRecDepth 100000 in
theorem parse_c (p : Value) (s : Bs) (w : World) (g : Gl p w) (hN : s.length ≤ 1000000000) :
    Calls Tryz.prog 12 #[.string (bs s)] w fun e w' =>
      ∃ kv lv, e = .returned (.tuple #[jVal (parseM s).1 kv lv, .int .i64 (parseM s).2]) ∧ JAt w' (fun k => w.heap.size ≤ k) (parseM s).1 kv lv ∧ Fr none' w w' := by
  have hsz := g.size
  have F2 : Fr none' w ((w.alloc (.cells #[.int .i64 0, .bool false, .int .i64 0, .string ⟨#[]⟩, .slice none 0 0, .slice none 0 0] 26)).alloc (.cells #[.string (bs s), .int .i64 0, .nilIface] 51)) := ((Fr.refl _ _).alloc _).alloc _
  have R2 : RS p ((w.alloc (.cells #[.int .i64 0, .bool false, .int .i64 0, .string ⟨#[]⟩, .slice none 0 0, .slice none 0 0] 26)).alloc (.cells #[.string (bs s), .int .i64 0, .nilIface] 51)) (w.heap.size + 1) s 0 none := ⟨(g.fr0 F2), alloc_at _ (by simp), by omega⟩
  have B2 : B26 ((w.alloc (.cells #[.int .i64 0, .bool false, .int .i64 0, .string ⟨#[]⟩, .slice none 0 0, .slice none 0 0] 26)).alloc (.cells #[.string (bs s), .int .i64 0, .nilIface] 51)) w.heap.size (.int .i64 0) (.bool false) (.int .i64 0) (.string ⟨#[]⟩) (.slice none 0 0) (.slice none 0 0) := alloc_old (alloc_new w _) _
  have S2 : w.heap.size + 2 = ((w.alloc (.cells #[.int .i64 0, .bool false, .int .i64 0, .string ⟨#[]⟩, .slice none 0 0, .slice none 0 0] 26)).alloc (.cells #[.string (bs s), .int .i64 0, .nilIface] 51)).heap.size := by simp
  obtain ⟨PM, hPM⟩ : ∃ PM, parseM s = PM := ⟨_, rfl⟩
  have hpm := hPM
  unfold parseM at hpm
  rw [hPM]
  clear hPM
  have HP := Lib.hid hpm
  have HF2 := Lib.hid F2
  have HR2 := Lib.hid R2
  have HB2 := Lib.hid B2
  have HS2 := Lib.hid S2
  clear g F2 R2 B2 S2 hpm
  go_enter Tryz.func12, Tryz.ntmps12
  go_wp2_with fail
  obtain ⟨w2, hw2⟩ : ∃ w2, ((w.alloc (.cells #[.int .i64 0, .bool false, .int .i64 0, .string ⟨#[]⟩, .slice none 0 0, .slice none 0 0] 26)).alloc (.cells #[.string (bs s), .int .i64 0, .nilIface] 51)) = w2 := ⟨_, rfl⟩
  rw [hw2] at HF2 HR2 HB2 HS2 ⊢
  clear hw2
  refine (skip_r p (w.heap.size + 1) s 0 none _ HR2.out).mono ?_
  rintro e w3 ⟨rfl, R3, f3⟩
  have hs3 : (skipB s).length ≤ 1000000000 := Nat.le_trans (skipB_len s) hN
  have HR3 := Lib.hid R3
  have HB3 := Lib.hid (HB2.out.fr f3 (by omega))
  have HF3 := Lib.hid (HF2.out.call f3 (fun i hi => .inr (by omega)))
  have HS3 := Lib.hid (show w.heap.size + 2 ≤ w3.heap.size by have := HS2.out; have := f3.size; omega)
  clear R3 f3 HR2 HB2 HF2
  go_wp2_with fail
  refine (value_c p 64 0 (by decide) (by decide) (w.heap.size + 1) (skipB s) _ HR3.out hs3).mono ?_
  rintro e w4 ⟨kv, lv, rfl, T4, R4, f4⟩
  have hpm := HP.out
  have hvl := valM_len 64 (skipB s)
  obtain ⟨VM, hVM⟩ : ∃ VM, valM 64 (skipB s) = VM := ⟨_, rfl⟩
  rw [hVM] at hpm T4 R4 hvl ⊢
  have HP2 := Lib.hid hpm
  obtain ⟨jA, jn, jc, jA', jn', jc', rfl, rfl⟩ := T4.form
  have HT4 := Lib.hid (T4.mono (ok' := fun k => w.heap.size + 2 ≤ k) (fun k hk _ => by have := HS3.out; omega))
  have HR4 := Lib.hid R4
  have HB4 := Lib.hid (HB3.out.fr f4 (by omega))
  have HF4 := Lib.hid (HF3.out.call f4 (fun i hi => .inr (by omega)))
  have HS4 := Lib.hid (show w.heap.size + 2 ≤ w4.heap.size by have := HS3.out; have := f4.size; omega)
  clear T4 R4 f4 HR3 HB3 HF3 hpm hVM
  unfold jVal
  go_wp2_with fail
  have A5 : Fr none' w4 (w4.alloc (.cells #[.int .i64 VM.1.kind, .bool VM.1.yes, .int .i64 VM.1.n, .string (bs VM.1.s), .slice jA jn jc, .slice jA' jn' jc'] 26)) := (Fr.refl _ _).alloc _
  have N5 : B26 (w4.alloc (.cells #[.int .i64 VM.1.kind, .bool VM.1.yes, .int .i64 VM.1.n, .string (bs VM.1.s), .slice jA jn jc, .slice jA' jn' jc'] 26)) w4.heap.size _ _ _ _ _ _ := alloc_new _ _
  have HR5 := Lib.hid (HR4.out.fr0 A5)
  have HB5 := Lib.hid (HB4.out.fr A5 id)
  have HT5 := Lib.hid (HT4.out.fr A5 (fun _ _ => id))
  have HF5 := Lib.hid (HF4.out.trans A5)
  have HN5 := Lib.hid N5
  clear A5 N5
  refine (skip_r p (w.heap.size + 1) VM.2.1 0 VM.2.2 _ HR5.out).mono ?_
  rintro e w6 ⟨rfl, R6, f6⟩
  have hs4 := HS4.out
  have HR6 := Lib.hid R6
  have HB6 := Lib.hid (HB5.out.fr f6 (by omega))
  have HT6 := Lib.hid (HT5.out.fr f6 (fun k hk e => by omega))
  have HF6 := Lib.hid (HF5.out.call f6 (fun i hi => .inr (by omega)))
  have HN6 := Lib.hid (HN5.out.fr f6 (by omega))
  clear R6 f6 HR4 HB4 HT4 HF4 HR5 HB5 HT5 HF5 HN5
  have c0 := HR6.out.rd.c0
  by_cases hq : skipB VM.2.1 = []
  · have hz : (bs (skipB VM.2.1)).toList.isEmpty = true := by rw [bs_toList, hq]; rfl
    have hpm := HP2.out
    rw [if_pos hq] at hpm
    have HQ := Lib.hid hq
    clear hq
    cases ho : VM.2.2 with
    | some y =>
      rw [ho] at hpm
      have HE := Lib.hid (show (nullJ, y) = PM from hpm)
      have c2 := HR6.out.rd.c2
      rw [ho] at c2
      clear hpm ho
      unfold errV at c2
      go_wp2_with fail
      refine (told_c p (some (y)) _ HR6.out.gl.et).mono ?_
      rintro e w8 ⟨rfl, f8⟩
      have hb := HB6.out.fr f8 id
      have b0 := hb.c0
      have b1 := hb.c1
      have b2 := hb.c2
      have b3 := hb.c3
      have b4 := hb.c4
      have b5 := hb.c5
      have z0 := hb.fz 0
      have z1 := hb.fz 1
      have z2 := hb.fz 2
      have z3 := hb.fz 3
      have z4 := hb.fz 4
      have z5 := hb.fz 5
      have HB8 := Lib.hid hb
      have HF8 := Lib.hid (HF6.out.trans f8)
      clear hb f8
      go_wp2
      refine put_elim HB8.out ?_
      intro w9 hb9 f9
      go_wp2
      refine bodyPost_ret (ret26' rfl rfl hb9) rfl ?_
      rw [← HE.out]
      exact ⟨.slice none 0 0, .slice none 0 0, rfl, JAt.nil _ _ _ _ _ _, HF8.out.call f9 (fun i hi => .inr (by omega))⟩
    | none =>
      rw [ho] at hpm
      have HE := Lib.hid (show (VM.1, 0) = PM from hpm)
      have c2 := HR6.out.rd.c2
      rw [ho] at c2
      clear hpm ho
      unfold errV at c2
      have hb := HB6.out
      have hn := HN6.out
      have b0 := hb.c0
      have b1 := hb.c1
      have b2 := hb.c2
      have b3 := hb.c3
      have b4 := hb.c4
      have b5 := hb.c5
      have z0 := hb.fz 0
      have z1 := hb.fz 1
      have z2 := hb.fz 2
      have z3 := hb.fz 3
      have z4 := hb.fz 4
      have z5 := hb.fz 5
      have y0 := hn.c0
      have y1 := hn.c1
      have y2 := hn.c2
      have y3 := hn.c3
      have y4 := hn.c4
      have y5 := hn.c5
      have x0 := hn.fz 0
      have x1 := hn.fz 1
      have x2 := hn.fz 2
      have x3 := hn.fz 3
      have x4 := hn.fz 4
      have x5 := hn.fz 5
      clear hb hn
      go_wp2
      refine put_elim HB6.out ?_
      intro w7 hb7 f7
      go_wp2
      refine bodyPost_ret (ret26' rfl rfl hb7) rfl ?_
      rw [← HE.out]
      exact ⟨_, _, rfl, (HT6.out.fr f7 (fun k hk e => by omega)).mono (fun k hk _ => by omega), HF6.out.call f7 (fun i hi => .inr (by omega))⟩
  · have hz : (bs (skipB VM.2.1)).toList.isEmpty = false := by
      rw [bs_toList]
      cases h : skipB VM.2.1 with
      | nil => exact absurd h hq
      | cons a b => rfl
    have hpm := HP2.out
    rw [if_neg hq] at hpm
    have HE := Lib.hid (show (nullJ, VM.2.2.getD 150) = PM from hpm)
    clear hq hpm
    go_wp2_with fail
    refine (fail_r p (w.heap.size + 1) (skipB VM.2.1) 0 150 VM.2.2 _ HR6.out).mono ?_
    rintro e w7 ⟨rfl, R7, f7⟩
    have HR7 := Lib.hid R7
    have HB7 := Lib.hid (HB6.out.fr f7 (by omega))
    have HF7 := Lib.hid (HF6.out.call f7 (fun i hi => .inr (by omega)))
    have c2 := R7.rd.c2
    unfold failE errV at c2
    clear R7 f7 c0 HR6
    go_wp2_with fail
    refine (told_c p (some (VM.2.2.getD 150)) _ HR7.out.gl.et).mono ?_
    rintro e w8 ⟨rfl, f8⟩
    have hb := HB7.out.fr f8 id
    have b0 := hb.c0
    have b1 := hb.c1
    have b2 := hb.c2
    have b3 := hb.c3
    have b4 := hb.c4
    have b5 := hb.c5
    have z0 := hb.fz 0
    have z1 := hb.fz 1
    have z2 := hb.fz 2
    have z3 := hb.fz 3
    have z4 := hb.fz 4
    have z5 := hb.fz 5
    have HB8 := Lib.hid hb
    have HF8 := Lib.hid (HF7.out.trans f8)
    clear hb f8
    go_wp2
    refine put_elim HB8.out ?_
    intro w9 hb9 f9
    go_wp2
    refine bodyPost_ret (ret26' rfl rfl hb9) rfl ?_
    rw [← HE.out]
    exact ⟨.slice none 0 0, .slice none 0 0, rfl, JAt.nil _ _ _ _ _ _, HF8.out.call f9 (fun i hi => .inr (by omega))⟩
end Go.Proofs.YtakgcaehkphepaaGreatDoor
