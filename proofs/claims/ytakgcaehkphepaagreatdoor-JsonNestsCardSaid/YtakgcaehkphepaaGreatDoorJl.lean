/- json.escaped, (*json.reader).escape. -/
import Derived.Test.YtakgcaehkphepaaGreatDoorJk
import Derived.Maps.Own
import Derived.Maps.OwnOps
import Derived.Deep.RegionWith
namespace Go.Proofs.YtakgcaehkphepaaGreatDoor
open Go.RowKit
set_option linter.unusedVariables false
set_option linter.unusedSimpArgs false

/-! ### Maps of the call's own, whose keys are written numbers -/
theorem run_insert_last {P : Program} (w : World) (es : Array MapEntry) (clock : Nat) {t kT eT : TypeId} {d : TypeDesc} (k v : Value) (hu : P.underlying t = some (.map kT eT)) (hk : P.underlying kT = some d)
    (hc : (Instr.checkKey false 10000 kT k).run P (w.alloc (.map es clock)) = .ok () (w.alloc (.map es clock))) (hf : Instr.findNow d k es.toList 0 = some none) :
    (Instr.mapUpdate t (.map (some w.heap.size)) k v).run P (w.alloc (.map es clock)) = .ok () (w.alloc (.map (es.push ⟨k, v, clock⟩) (clock + 1))) := by
  have hg : (w.alloc (.map es clock)).heap[w.heap.size]? = some (.map es clock) := alloc_new w _
  have hs : ∀ o' : Obj, ({ w.alloc (.map es clock) with heap := (w.alloc (.map es clock)).heap.setIfInBounds w.heap.size o' } : World) = w.alloc o' := by
    intro o'
    have : (w.heap.push (.map es clock)).setIfInBounds w.heap.size o' = w.heap.push o' := by
      apply Array.ext_getElem?
      intro i
      simp only [Array.getElem?_setIfInBounds, Array.getElem?_push, Array.size_push]
      by_cases h1 : w.heap.size = i
      · subst h1; simp
      · rw [if_neg h1, if_neg (by omega), if_neg (by omega)]
    show ({ w with heap := (w.heap.push (.map es clock)).setIfInBounds w.heap.size o' } : World) = { w with heap := w.heap.push o' }
    rw [this]
  simp only [Instr.mapUpdate, run_underlying hu, Sem.run_bind, Result.andThen, getObj, Sem.run, hg, hc, Instr.findKey, run_underlying hk, hf, setObj]
  show Sem.run P (Sem.setObj w.heap.size (.map (es.push ⟨k, v, clock⟩) (clock + 1)) (Sem.pure ())) (w.alloc (.map es clock)) = _
  simp only [Sem.run, hg]
  rw [hs]
theorem run_lookup_at {P : Program} (W : World) (m : Nat) (es : Array MapEntry) (clock : Nat) {t kT eT : TypeId} {d : TypeDesc} (k : Value) (hg : W.heap[m]? = some (.map es clock)) (hu : P.underlying t = some (.map kT eT)) (hk : P.underlying kT = some d)
    (hc : (Instr.checkKey es.isEmpty 10000 kT k).run P W = .ok () W) (i : Nat) (v : Value) (hf : Instr.findNow d k es.toList 0 = some (some (i, v))) :
    (Instr.lookup t (.map (some m)) k true).run P W = .ok (.tuple #[v, .bool true]) W := by
  simp [Instr.lookup, run_underlying hu, Sem.run_bind, Result.andThen, getObj, Sem.run, hg, hc, Instr.findKey, run_underlying hk, hf]
theorem run_lookup_none {P : Program} (W : World) (m : Nat) (es : Array MapEntry) (clock : Nat) {t kT eT : TypeId} {d : TypeDesc} (k z : Value) (hg : W.heap[m]? = some (.map es clock)) (hu : P.underlying t = some (.map kT eT)) (hk : P.underlying kT = some d)
    (hc : (Instr.checkKey es.isEmpty 10000 kT k).run P W = .ok () W) (hf : Instr.findNow d k es.toList 0 = some none) (hz : (zeroValue eT).run P W = .ok z W) :
    (Instr.lookup t (.map (some m)) k true).run P W = .ok (.tuple #[z, .bool false]) W := by
  simp [Instr.lookup, run_underlying hu, Sem.run_bind, Result.andThen, getObj, Sem.run, hg, hc, Instr.findKey, run_underlying hk, hf, hz]
theorem check_u8 (b : Bool) (n : Int) (W : World) : (Instr.checkKey b 10000 5 (.int .u8 n)).run Tryz.prog W = .ok () W := by kernel_rfl

def escMap : Array MapEntry := #[⟨.int .u8 34, .string ⟨#[34]⟩, 0⟩, ⟨.int .u8 92, .string ⟨#[92]⟩, 1⟩, ⟨.int .u8 47, .string ⟨#[47]⟩, 2⟩, ⟨.int .u8 98, .string ⟨#[8]⟩, 3⟩, ⟨.int .u8 102, .string ⟨#[12]⟩, 4⟩, ⟨.int .u8 110, .string ⟨#[10]⟩, 5⟩, ⟨.int .u8 114, .string ⟨#[13]⟩, 6⟩, ⟨.int .u8 116, .string ⟨#[9]⟩, 7⟩]
theorem Ja.ins0 (w : World) : (Instr.mapUpdate 184 (.map (some w.heap.size)) (.int .u8 34) (.string ⟨#[34]⟩)).run Tryz.prog (w.alloc (.map #[] 0)) = .ok () (w.alloc (.map #[⟨.int .u8 34, .string ⟨#[34]⟩, 0⟩] 1)) :=
  run_insert_last w #[] 0 _ _ Tryz.underlying184 Tryz.underlying5 (check_u8 _ _ _) (by rfl)
theorem Ja.ins1 (w : World) : (Instr.mapUpdate 184 (.map (some w.heap.size)) (.int .u8 92) (.string ⟨#[92]⟩)).run Tryz.prog (w.alloc (.map #[⟨.int .u8 34, .string ⟨#[34]⟩, 0⟩] 1)) = .ok () (w.alloc (.map #[⟨.int .u8 34, .string ⟨#[34]⟩, 0⟩, ⟨.int .u8 92, .string ⟨#[92]⟩, 1⟩] 2)) :=
  run_insert_last w #[⟨.int .u8 34, .string ⟨#[34]⟩, 0⟩] 1 _ _ Tryz.underlying184 Tryz.underlying5 (check_u8 _ _ _) (by rfl)
theorem Ja.ins2 (w : World) : (Instr.mapUpdate 184 (.map (some w.heap.size)) (.int .u8 47) (.string ⟨#[47]⟩)).run Tryz.prog (w.alloc (.map #[⟨.int .u8 34, .string ⟨#[34]⟩, 0⟩, ⟨.int .u8 92, .string ⟨#[92]⟩, 1⟩] 2)) = .ok () (w.alloc (.map #[⟨.int .u8 34, .string ⟨#[34]⟩, 0⟩, ⟨.int .u8 92, .string ⟨#[92]⟩, 1⟩, ⟨.int .u8 47, .string ⟨#[47]⟩, 2⟩] 3)) :=
  run_insert_last w #[⟨.int .u8 34, .string ⟨#[34]⟩, 0⟩, ⟨.int .u8 92, .string ⟨#[92]⟩, 1⟩] 2 _ _ Tryz.underlying184 Tryz.underlying5 (check_u8 _ _ _) (by rfl)
theorem Ja.ins3 (w : World) : (Instr.mapUpdate 184 (.map (some w.heap.size)) (.int .u8 98) (.string ⟨#[8]⟩)).run Tryz.prog (w.alloc (.map #[⟨.int .u8 34, .string ⟨#[34]⟩, 0⟩, ⟨.int .u8 92, .string ⟨#[92]⟩, 1⟩, ⟨.int .u8 47, .string ⟨#[47]⟩, 2⟩] 3)) = .ok () (w.alloc (.map #[⟨.int .u8 34, .string ⟨#[34]⟩, 0⟩, ⟨.int .u8 92, .string ⟨#[92]⟩, 1⟩, ⟨.int .u8 47, .string ⟨#[47]⟩, 2⟩, ⟨.int .u8 98, .string ⟨#[8]⟩, 3⟩] 4)) :=
  run_insert_last w #[⟨.int .u8 34, .string ⟨#[34]⟩, 0⟩, ⟨.int .u8 92, .string ⟨#[92]⟩, 1⟩, ⟨.int .u8 47, .string ⟨#[47]⟩, 2⟩] 3 _ _ Tryz.underlying184 Tryz.underlying5 (check_u8 _ _ _) (by rfl)
theorem Ja.ins4 (w : World) : (Instr.mapUpdate 184 (.map (some w.heap.size)) (.int .u8 102) (.string ⟨#[12]⟩)).run Tryz.prog (w.alloc (.map #[⟨.int .u8 34, .string ⟨#[34]⟩, 0⟩, ⟨.int .u8 92, .string ⟨#[92]⟩, 1⟩, ⟨.int .u8 47, .string ⟨#[47]⟩, 2⟩, ⟨.int .u8 98, .string ⟨#[8]⟩, 3⟩] 4)) = .ok () (w.alloc (.map #[⟨.int .u8 34, .string ⟨#[34]⟩, 0⟩, ⟨.int .u8 92, .string ⟨#[92]⟩, 1⟩, ⟨.int .u8 47, .string ⟨#[47]⟩, 2⟩, ⟨.int .u8 98, .string ⟨#[8]⟩, 3⟩, ⟨.int .u8 102, .string ⟨#[12]⟩, 4⟩] 5)) :=
  run_insert_last w #[⟨.int .u8 34, .string ⟨#[34]⟩, 0⟩, ⟨.int .u8 92, .string ⟨#[92]⟩, 1⟩, ⟨.int .u8 47, .string ⟨#[47]⟩, 2⟩, ⟨.int .u8 98, .string ⟨#[8]⟩, 3⟩] 4 _ _ Tryz.underlying184 Tryz.underlying5 (check_u8 _ _ _) (by rfl)
theorem Ja.ins5 (w : World) : (Instr.mapUpdate 184 (.map (some w.heap.size)) (.int .u8 110) (.string ⟨#[10]⟩)).run Tryz.prog (w.alloc (.map #[⟨.int .u8 34, .string ⟨#[34]⟩, 0⟩, ⟨.int .u8 92, .string ⟨#[92]⟩, 1⟩, ⟨.int .u8 47, .string ⟨#[47]⟩, 2⟩, ⟨.int .u8 98, .string ⟨#[8]⟩, 3⟩, ⟨.int .u8 102, .string ⟨#[12]⟩, 4⟩] 5)) = .ok () (w.alloc (.map #[⟨.int .u8 34, .string ⟨#[34]⟩, 0⟩, ⟨.int .u8 92, .string ⟨#[92]⟩, 1⟩, ⟨.int .u8 47, .string ⟨#[47]⟩, 2⟩, ⟨.int .u8 98, .string ⟨#[8]⟩, 3⟩, ⟨.int .u8 102, .string ⟨#[12]⟩, 4⟩, ⟨.int .u8 110, .string ⟨#[10]⟩, 5⟩] 6)) :=
  run_insert_last w #[⟨.int .u8 34, .string ⟨#[34]⟩, 0⟩, ⟨.int .u8 92, .string ⟨#[92]⟩, 1⟩, ⟨.int .u8 47, .string ⟨#[47]⟩, 2⟩, ⟨.int .u8 98, .string ⟨#[8]⟩, 3⟩, ⟨.int .u8 102, .string ⟨#[12]⟩, 4⟩] 5 _ _ Tryz.underlying184 Tryz.underlying5 (check_u8 _ _ _) (by rfl)
theorem Ja.ins6 (w : World) : (Instr.mapUpdate 184 (.map (some w.heap.size)) (.int .u8 114) (.string ⟨#[13]⟩)).run Tryz.prog (w.alloc (.map #[⟨.int .u8 34, .string ⟨#[34]⟩, 0⟩, ⟨.int .u8 92, .string ⟨#[92]⟩, 1⟩, ⟨.int .u8 47, .string ⟨#[47]⟩, 2⟩, ⟨.int .u8 98, .string ⟨#[8]⟩, 3⟩, ⟨.int .u8 102, .string ⟨#[12]⟩, 4⟩, ⟨.int .u8 110, .string ⟨#[10]⟩, 5⟩] 6)) = .ok () (w.alloc (.map #[⟨.int .u8 34, .string ⟨#[34]⟩, 0⟩, ⟨.int .u8 92, .string ⟨#[92]⟩, 1⟩, ⟨.int .u8 47, .string ⟨#[47]⟩, 2⟩, ⟨.int .u8 98, .string ⟨#[8]⟩, 3⟩, ⟨.int .u8 102, .string ⟨#[12]⟩, 4⟩, ⟨.int .u8 110, .string ⟨#[10]⟩, 5⟩, ⟨.int .u8 114, .string ⟨#[13]⟩, 6⟩] 7)) :=
  run_insert_last w #[⟨.int .u8 34, .string ⟨#[34]⟩, 0⟩, ⟨.int .u8 92, .string ⟨#[92]⟩, 1⟩, ⟨.int .u8 47, .string ⟨#[47]⟩, 2⟩, ⟨.int .u8 98, .string ⟨#[8]⟩, 3⟩, ⟨.int .u8 102, .string ⟨#[12]⟩, 4⟩, ⟨.int .u8 110, .string ⟨#[10]⟩, 5⟩] 6 _ _ Tryz.underlying184 Tryz.underlying5 (check_u8 _ _ _) (by rfl)
theorem Ja.ins7 (w : World) : (Instr.mapUpdate 184 (.map (some w.heap.size)) (.int .u8 116) (.string ⟨#[9]⟩)).run Tryz.prog (w.alloc (.map #[⟨.int .u8 34, .string ⟨#[34]⟩, 0⟩, ⟨.int .u8 92, .string ⟨#[92]⟩, 1⟩, ⟨.int .u8 47, .string ⟨#[47]⟩, 2⟩, ⟨.int .u8 98, .string ⟨#[8]⟩, 3⟩, ⟨.int .u8 102, .string ⟨#[12]⟩, 4⟩, ⟨.int .u8 110, .string ⟨#[10]⟩, 5⟩, ⟨.int .u8 114, .string ⟨#[13]⟩, 6⟩] 7)) = .ok () (w.alloc (.map #[⟨.int .u8 34, .string ⟨#[34]⟩, 0⟩, ⟨.int .u8 92, .string ⟨#[92]⟩, 1⟩, ⟨.int .u8 47, .string ⟨#[47]⟩, 2⟩, ⟨.int .u8 98, .string ⟨#[8]⟩, 3⟩, ⟨.int .u8 102, .string ⟨#[12]⟩, 4⟩, ⟨.int .u8 110, .string ⟨#[10]⟩, 5⟩, ⟨.int .u8 114, .string ⟨#[13]⟩, 6⟩, ⟨.int .u8 116, .string ⟨#[9]⟩, 7⟩] 8)) :=
  run_insert_last w #[⟨.int .u8 34, .string ⟨#[34]⟩, 0⟩, ⟨.int .u8 92, .string ⟨#[92]⟩, 1⟩, ⟨.int .u8 47, .string ⟨#[47]⟩, 2⟩, ⟨.int .u8 98, .string ⟨#[8]⟩, 3⟩, ⟨.int .u8 102, .string ⟨#[12]⟩, 4⟩, ⟨.int .u8 110, .string ⟨#[10]⟩, 5⟩, ⟨.int .u8 114, .string ⟨#[13]⟩, 6⟩] 7 _ _ Tryz.underlying184 Tryz.underlying5 (check_u8 _ _ _) (by rfl)

set_option maxHeartbeats 1000000 in
set_option maxRecDepth 100000 in
theorem escaped_c (w : World) :
    Calls Tryz.prog 141 #[] w fun e w' => e = .returned (.map (some w.heap.size)) ∧ w' = w.alloc (.map escMap 8) := by
  have hmm := @run_makeMap Tryz.prog
  have i0 := Ja.ins0 w
  have i1 := Ja.ins1 w
  have i2 := Ja.ins2 w
  have i3 := Ja.ins3 w
  have i4 := Ja.ins4 w
  have i5 := Ja.ins5 w
  have i6 := Ja.ins6 w
  have i7 := Ja.ins7 w
  go_enter Tryz.func141, Tryz.ntmps141
  go_wp2
  go_ret
  exact ⟨rfl, rfl⟩

/-- What a single letter stands for. -/
def esc1 (c : Int) : Option Bs :=
  if c = 34 then some [34] else
  if c = 92 then some [92] else
  if c = 47 then some [47] else
  if c = 98 then some [8] else
  if c = 102 then some [12] else
  if c = 110 then some [10] else
  if c = 114 then some [13] else
  if c = 116 then some [9] else
  none

theorem esc_hit (W : World) (m : Nat) (hg : W.heap[m]? = some (.map escMap 8)) (c : Int) (t : Bs) (h : esc1 c = some t) :
    (Instr.lookup 184 (.map (some m)) (.int .u8 c) true).run Tryz.prog W = .ok (.tuple #[.string (bs t), .bool true]) W := by
  unfold esc1 at h
  repeat' split at h
  all_goals first
  | (rename_i hc; subst hc; cases h; exact run_lookup_at W m escMap 8 _ hg Tryz.underlying184 Tryz.underlying5 (check_u8 _ _ _) _ _ rfl)
  | (simp at h; done)
theorem esc_none (W : World) (m : Nat) (hg : W.heap[m]? = some (.map escMap 8)) (c : Int) (h : esc1 c = none) :
    (Instr.lookup 184 (.map (some m)) (.int .u8 c) true).run Tryz.prog W = .ok (.tuple #[.string ⟨#[]⟩, .bool false]) W := by
  refine run_lookup_none W m escMap 8 _ _ hg Tryz.underlying184 Tryz.underlying5 (check_u8 _ _ _) ?_ (by kernel_rfl)
  unfold esc1 at h
  by_cases h34 : c = 34
  · rw [if_pos h34] at h; cases h
  rw [if_neg h34] at h
  by_cases h92 : c = 92
  · rw [if_pos h92] at h; cases h
  rw [if_neg h92] at h
  by_cases h47 : c = 47
  · rw [if_pos h47] at h; cases h
  rw [if_neg h47] at h
  by_cases h98 : c = 98
  · rw [if_pos h98] at h; cases h
  rw [if_neg h98] at h
  by_cases h102 : c = 102
  · rw [if_pos h102] at h; cases h
  rw [if_neg h102] at h
  by_cases h110 : c = 110
  · rw [if_pos h110] at h; cases h
  rw [if_neg h110] at h
  by_cases h114 : c = 114
  · rw [if_pos h114] at h; cases h
  rw [if_neg h114] at h
  by_cases h116 : c = 116
  · rw [if_pos h116] at h; cases h
  rw [if_neg h116] at h
  simp only [escMap, Instr.findNow, Instr.sameNow, if_true, beq_eq_false_iff_ne.2 h34, beq_eq_false_iff_ne.2 h92, beq_eq_false_iff_ne.2 h47, beq_eq_false_iff_ne.2 h98, beq_eq_false_iff_ne.2 h102, beq_eq_false_iff_ne.2 h110, beq_eq_false_iff_ne.2 h114, beq_eq_false_iff_ne.2 h116]


end Go.Proofs.YtakgcaehkphepaaGreatDoor
