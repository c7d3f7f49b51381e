/- (*json.reader).word: one round of its loop over a function. -/
import Derived.Test.YtakgcaehkphepaaGreatDoorJf
import Derived.RangeFuncRecord
import Derived.RangeFuncLeaves
import Derived.RangeFuncCalls
import Derived.RangeFuncIn
import Derived.TacticsIn
import Derived.BigFrameIn
namespace Go.Proofs.YtakgcaehkphepaaGreatDoor
open Go.RowKit
set_option linter.unusedVariables false
set_option linter.unusedSimpArgs false

def wAssign : Code := Code.region 3 #[{ dst := some 4, op := Op.assign (Operand.tmp 7), type := 9, pos := "json.go:281", after := #[], guard := none }] false
def wBody : Code := Code.block 1 (Code.region 4 #[{ dst := some 8, op := Op.move (Operand.tmp 4), type := 9, pos := "json.go:282", after := #[], guard := none },
  { dst := some 9, op := Op.call { callee := Callee.value (Operand.func 64), args := #[Operand.tmp 3, Operand.tmp 8], argTypes := #[90, 9] }, type := 92, pos := "json.go:282", after := #[{ on := 0, ground := Ground.data }], guard := none }] false)
/-- The loop's record: word's slots as they stood when the loop was come to. -/
def wRec (fn r bb bx D : Nat) (st : LoopState) (pend : Option Code) : Loop :=
  { state := st, pending := pend, fn, tmps := #[.pointer (some ⟨r, 0, none⟩), undef, .string ⟨#[]⟩, .pointer (some ⟨bb, 0, none⟩), undef, .pointer (some ⟨r, 0, none⟩), .func (.func 121) #[] #[.pointer (some ⟨bx, 0, none⟩)], undef, undef, undef, undef],
    params := #[7], assign := wAssign, body := wBody, defers := D }
theorem putObj_fr {m : Nat → Prop} {w W : World} (h : Fr m w W) {l : Nat} (hl : m l ∨ w.heap.size ≤ l) (o : Obj) : Fr m w (W.putObj l o) :=
  h.call (m' := fun k => k = l) ⟨rfl, rfl, rfl, by simp, fun k _ hk => World.putObj_heap_other hk⟩ (fun i hi => hi ▸ hl)

set_option maxHeartbeats 1000000 in
set_option maxRecDepth 100000 in
theorem wRound (F : Fence) (hF : F = Fence.wide) (m fn r bb bx D L B : Nat) (acc t : Bs) (W : World) (hL : W.heap[L]? = some (.loop (wRec fn r bb bx D .ready none))) (hB : Bld W B bb acc) (hbL : L < B) (hne : bb ≠ L) (hBw : B ≤ W.heap.size)
    (hlen : acc.length + t.length ≤ 140737488355328) :
    RoundIn F m Tryz.prog L fn #[.pointer (some ⟨r, 0, none⟩), undef, .string ⟨#[]⟩, .pointer (some ⟨bb, 0, none⟩), undef, .pointer (some ⟨r, 0, none⟩), .func (.func 121) #[] #[.pointer (some ⟨bx, 0, none⟩)], .string (bs t), undef, undef, undef] wAssign wBody W
      fun e W' => e = .returned (.bool true) ∧ W'.heap[L]? = some (.loop (wRec fn r bb bx D .ready none)) ∧ Bld W' B bb (acc ++ t) ∧ Fr (fun k => k = bb ∨ k = L ∨ B ≤ k) W W' := by
  subst hF
  refine roundIn_of_wpIn trivial ?_
  have hl : L < W.heap.size := lt_of hL
  have hbr := run_beginRound (P := Tryz.prog) hL rfl
  obtain ⟨W2, hW2⟩ : ∃ W2, W.putObj L (.loop { wRec fn r bb bx D .ready none with state := .busy }) = W2 := ⟨_, rfl⟩
  rw [hW2] at hbr
  have F2 : Fr (fun k => k = bb ∨ k = L ∨ B ≤ k) W W2 := by rw [← hW2]; exact putObj_fr (Fr.refl _ _) (.inl (.inr (.inl rfl))) _
  have hL2 : W2.heap[L]? = some (.loop { wRec fn r bb bx D .ready none with state := .busy }) := by rw [← hW2]; exact World.putObj_heap_same hl
  have hB2 : Bld W2 B bb acc := by
    rw [← hW2]
    exact hB.fr (m := fun k => k = L) (putObj_fr (m := fun k => k = L) (Fr.refl _ _) (.inl rfl) _) hne (fun k hk _ e => by omega)
  have hs2 : B ≤ W2.heap.size := Nat.le_trans hBw F2.size
  have HF2 := Lib.hid F2
  have HL2 := Lib.hid hL2
  have HB2 := Lib.hid hB2
  clear hW2 F2 hL2 hB2 hL hB
  unfold wAssign
  gi_wp2_with ((rw [Oper.semAt_eq _ _ _ (fun c h => by cases h)]; go_simp; try go_bits))
  unfold wBody
  gi_wp2_with ((rw [Oper.semAt_eq _ _ _ (fun c h => by cases h)]; go_simp; try go_bits))
  refine ⟨trivial, (fun h => by cases h), ?_⟩
  refine CallsIn.inRound L (callsIn_wide.2 ((writeString_c B bb acc t W2 HB2.out hlen hs2).mono ?_))
  rintro e w3 ⟨rfl, h3, f3⟩
  have H3 := Lib.hid h3
  have F3 := Lib.hid f3
  clear h3 f3
  gi_wp2
  have hL3 := F3.out.get HL2.out (fun e => by rcases e with e | e <;> omega)
  have hl3 : L < w3.heap.size := lt_of hL3
  refine ⟨_, _, run_endRound none hL3, rfl, World.putObj_heap_same hl3, ?_, ?_⟩
  · exact H3.out.fr (m := fun k => k = L) (putObj_fr (m := fun k => k = L) (Fr.refl _ _) (.inl rfl) _) hne (fun k hk _ e => by omega)
  · exact putObj_fr (HF2.out.trans (F3.out.mono (fun k hk => hk.elim .inl (fun h => .inr (.inr h))))) (.inl (.inr (.inl rfl))) _
end Go.Proofs.YtakgcaehkphepaaGreatDoor
