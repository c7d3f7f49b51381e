/- (*json.reader).runes, (*json.reader).word. -/
import Derived.Test.YtakgcaehkphepaaGreatDoorJs
namespace Go.Proofs.YtakgcaehkphepaaGreatDoor
open Go.RowKit
set_option linter.unusedVariables false
set_option linter.unusedSimpArgs false

set_option maxHeartbeats 1000000 in
theorem runesSeq_c (r : Nat) (w : World) : Calls Tryz.prog 100 #[.pointer (some ⟨r, 0, none⟩)] w fun e w' =>
    e = .returned (.func (.func 121) #[] #[.pointer (some ⟨w.heap.size, 0, none⟩)]) ∧ w' = w.alloc (.cells #[.pointer (some ⟨r, 0, none⟩)] 45 (0, 0)) := by
  go_enter Tryz.func100, Tryz.ntmps100
  go_wp2
  go_ret
  exact ⟨rfl, rfl⟩

theorem string_k (B b : Nat) (l : Bs) (w : World) (h : Bld w B b l) :
    Calls Tryz.prog 66 #[.pointer (some ⟨b, 0, none⟩)] w fun e w' => e = .returned (.string (bs l)) ∧ Fr (fun k => b ≤ k) w w' ∧ Lib.OthersKept 5 (some b) w w' := by
  have hlt := h.lt
  obtain ⟨hB, p, v, hp, hh, ho⟩ := h
  have hA : Lib.BuilderAt 90 5 b b p (Lib.byteCells l) w := ⟨Nat.le_refl _, v, hh, by rw [Lib.byteCells_length]; exact ownsRow_base ho (by omega), fun e => by have := (ownsRow_ge ho e).1; omega⟩
  have hI : Lib.IsBuilder 90 5 b b (Lib.byteCells l) w := by
    rcases hp with rfl | rfl
    · exact .inl hA
    · exact .inr hA
  refine (Tryz.Builder_String_any_k b b l w (Lib.IsBuilderF.of hI) (by omega)).mono ?_
  rintro e w' ⟨rfl, _, hb, hk⟩
  exact ⟨rfl, ⟨hb.os, hb.tape, hb.output, hb.size, fun k hk hn => hb.block k (by omega)⟩, hk⟩

/-- A text's end, read from behind its first quote: the text, what is left, what is wrong. -/
def wordM (s : Bs) (o : Option Int) : Bs × Bs × Option Int := runesM (s.length + 1) s o []

theorem runesM_len : ∀ (k : Nat) (s : Bs) (o : Option Int) (acc : Bs), (runesM k s o acc).1.length + (runesM k s o acc).2.1.length ≤ acc.length + s.length := by
  intro k
  induction k with
  | zero => intro s o acc; exact Nat.le_refl _
  | succ k ih =>
    intro s o acc
    cases o with
    | some y => exact Nat.le_refl _
    | none =>
      simp only [runesM]
      split
      · exact Nat.le_refl _
      · split
        · simp only [List.length_drop]; omega
        · split
          · have h1 := ih (escM (s.drop 1) none).2.1 (escM (s.drop 1) none).2.2 (acc ++ (escM (s.drop 1) none).1)
            have h2 := escM_len (s.drop 1) none
            rw [List.length_append] at h1
            rw [List.length_drop] at h2
            omega
          · have h1 := ih (s.drop (Lib.decodeGo (bs s)).2) none (acc ++ s.take (Lib.decodeGo (bs s)).2)
            rw [List.length_append, List.length_take, List.length_drop] at h1
            have := decGo_le s
            omega

set_option maxHeartbeats 2000000 in
set_option maxRecDepth 100000 in
theorem word_c (p : Value) (r : Nat) (s : Bs) (d : Int) (o : Option Int) (w : World) (h : RS p w r s d o) (hN : s.length ≤ 1073741824) :
    Calls Tryz.prog 77 #[.pointer (some ⟨r, 0, none⟩)] w fun e w' => e = .returned (.string (bs (wordM s o).1)) ∧ RS p w' r (wordM s o).2.1 d (wordM s o).2.2 ∧ Fr (· = r) w w' := by
  refine (callsIn_wide (n := 0)).1 (callsIn_of_wp_marks Tryz.func77 rfl trivial ?_ rfl)
  simp only [Tryz.ntmps77, List.size_toArray, List.length_nil, List.length_cons, Nat.reduceSub, Array.replicate_succ, Array.replicate_zero, List.push_toArray, List.append_toArray, List.nil_append, List.cons_append]
  have H := Lib.hid h
  have HN := Lib.hid hN
  clear h hN
  gi_wp2
  refine ⟨trivial, rfl, callsIn_wide.2 ((runesSeq_c r _).mono ?_)⟩
  rintro e w' ⟨rfl, rfl⟩
  gi_wp2
  have hr := H.out.rd.lt
  have hB0 := Bld.new w (w.heap.size + 4) (by omega)
  have R1 := H.out.alloc (.cells #[.pointer none, .slice none 0 0] 90 (0, 0))
  obtain ⟨w1, hw1⟩ : ∃ w1, w.alloc (.cells #[.pointer none, .slice none 0 0] 90 (0, 0)) = w1 := ⟨_, rfl⟩
  have f1 : Fr (· = r) w w1 := by rw [← hw1]; exact (Fr.refl _ _).alloc _
  have s1 : w1.heap.size = w.heap.size + 1 := by rw [← hw1]; simp
  rw [hw1] at R1 ⊢
  rw [show w.alloc (.cells #[.pointer none, .slice none 0 0] 90) = w1 from hw1] at hB0
  clear hw1
  have HX := Lib.hid hB0
  have HS1 := Lib.hid s1
  have HF1 := Lib.hid f1
  have HR1 := Lib.hid R1
  clear R1 f1 s1 hB0 hr
  refine wpIn_rangeFunc ?_
  intro fn hfn
  obtain ⟨w2, hw2⟩ : ∃ w2, w1.alloc (.cells #[.pointer (some ⟨r, 0, none⟩)] 45 (0, 0)) = w2 := ⟨_, rfl⟩
  have s2 : w2.heap.size = w.heap.size + 2 := by rw [← hw2]; have := HS1.out; simp; omega
  have x2 : w2.heap[w.heap.size + 1]? = some (.cells #[.pointer (some ⟨r, 0, none⟩)] 45 (0, 0)) := by rw [← hw2]; exact alloc_at _ HS1.out.symm
  have F2 : Hid (Fr (· = r) w w2) := by rw [← hw2]; exact HF1.out.alloc _
  have R2 : Hid (RS p w2 r s d o) := by rw [← hw2]; exact HR1.out.alloc _
  have B2 : Hid (Bld w2 (w.heap.size + 4) w.heap.size []) := by rw [← hw2]; exact HX.out.fr (m := none') ((Fr.refl _ _).alloc _) id (fun _ _ _ => id)
  rw [hw2]
  have HS2 := Lib.hid s2
  have X2 := Lib.hid x2
  clear hw2 s2 x2
  obtain ⟨W1, hW1⟩ : ∃ W1, (w2.alloc (.deferred (some []))).alloc (.loop (wRec fn r w.heap.size (w.heap.size + 1) (w.heap.size + 2) .ready none)) = W1 := ⟨_, rfl⟩
  have FW : Hid (Fr (· = r) w2 W1) := by rw [← hW1]; exact ((Fr.refl _ _).alloc _).alloc _
  have F0 : Hid (Fr none' w2 W1) := by rw [← hW1]; exact ((Fr.refl _ _).alloc _).alloc _
  have sW : W1.heap.size = w.heap.size + 4 := by rw [← hW1]; have := HS2.out; simp; omega
  have hLn : W1.heap[w.heap.size + 3]? = some (.loop (wRec fn r w.heap.size (w.heap.size + 1) (w.heap.size + 2) .ready none)) := by
    rw [← hW1]; exact alloc_at _ (by have := HS2.out; simp; omega)
  have hKn : W1.heap[w.heap.size + 2]? = some (.deferred (some [])) := by
    rw [← hW1]; exact alloc_old (alloc_at _ HS2.out.symm) _
  have hM : Mid fn p r w.heap.size (w.heap.size + 1) (w.heap.size + 2) (w.heap.size + 3) (w.heap.size + 4) s d o [] W1 :=
    ⟨R2.out.fr0 F0.out, hLn, hKn, F0.out.get X2.out id, B2.out.fr F0.out id (fun _ _ _ => id), Nat.le_of_eq sW.symm⟩
  have hO : Ord r w.heap.size (w.heap.size + 1) (w.heap.size + 2) (w.heap.size + 3) (w.heap.size + 4) := ⟨H.out.rd.lt, by omega, by omega, by omega, by omega⟩
  have HM := Lib.hid hM
  have HO := Lib.hid hO
  refine ⟨w.heap.size + 3, [{ target := .collected (w.heap.size + 2), args := #[] }], W1, { target := .fn (.func 121) #[.pointer (some ⟨w.heap.size + 1, 0, none⟩)], args := #[.func (.yield (w.heap.size + 3)) #[] #[]] }, W1, 121,
    #[.func (.yield (w.heap.size + 3)) #[] #[], .pointer (some ⟨w.heap.size + 1, 0, none⟩)], W1, ?_, ?_, ?_, ?_, (fun h => by cases h), ?_⟩
  · have e2 := run_enterLoop_outer (P := Tryz.prog) (w := w2) fn #[.pointer (some ⟨r, 0, none⟩), undef, .string ⟨#[]⟩, .pointer (some ⟨w.heap.size, 0, none⟩), undef, .pointer (some ⟨r, 0, none⟩), .func (.func 121) #[] #[.pointer (some ⟨w.heap.size + 1, 0, none⟩)], undef, undef, undef, undef] #[7] wAssign wBody
    rw [HS2.out] at e2
    rw [← hW1]
    exact e2
  · simp [resolve, go_sem]
  · intro f' _; exact trivial
  · simp [invoke, go_sem]
  · clear hW1 hM hO hLn hKn sW
    refine callsIn_wide.2 ((runes_c fn p r w.heap.size (w.heap.size + 1) (w.heap.size + 2) (w.heap.size + 3) (w.heap.size + 4) HO.out s d o W1 HM.out s.length (Nat.le_refl _) HN.out).mono ?_)
    rintro e W2 ⟨rfl, M2, f2⟩
    rw [show runesM (s.length + 1) s o [] = wordM s o from rfl] at M2
    have hend := run_endLoop (P := Tryz.prog) M2.L (by simp [wRec])
    obtain ⟨W3, hW3⟩ : ∃ W3, W2.putObj (w.heap.size + 3) (.loop { wRec fn r w.heap.size (w.heap.size + 1) (w.heap.size + 2) .ready none with state := .exhausted }) = W3 := ⟨_, rfl⟩
    rw [hW3] at hend
    have f3 : Fr (fun k => k = w.heap.size + 3) W2 W3 := by rw [← hW3]; exact putObj_fr (m := fun k => k = w.heap.size + 3) (Fr.refl _ _) (.inl rfl) _
    have hK3 : W3.heap[w.heap.size + 2]? = some (.deferred (some [])) := f3.get M2.K (by omega)
    have hB3 : Bld W3 (w.heap.size + 4) w.heap.size (wordM s o).1 := M2.bld.fr f3 (by omega) (fun k hk _ e => by omega)
    have hR3 : RS p W3 r (wordM s o).2.1 d (wordM s o).2.2 := ⟨M2.rs.gl.fr f3 (fun k hk e => by have := H.out.lo; have := H.out.rd.lt; omega), M2.rs.rd.fr f3 (by have := H.out.rd.lt; omega), M2.rs.lo⟩
    have F3 : Fr (· = r) w W3 := (F2.out.trans FW.out).call (f2.call f3 (m := wMod r w.heap.size (w.heap.size + 3) (w.heap.size + 4)) (fun i hi => .inl (.inr (.inr (.inl hi))))) (fun i hi => by rcases hi with h | h | h | h <;> omega)
    have HE := Lib.hid hend
    have HK3 := Lib.hid hK3
    have HB3 := Lib.hid hB3
    have HR3 := Lib.hid hR3
    have HF3 := Lib.hid F3
    clear hW3 f3 hK3 hB3 hR3 F3 hend M2 f2
    refine ⟨none, W3, HE.out, ?_⟩
    gi_wp2
    refine ⟨trivial, rfl, callsIn_wide.2 ((string_k (w.heap.size + 4) w.heap.size _ W3 HB3.out).mono ?_)⟩
    rintro e W4 ⟨rfl, f4, k4⟩
    have HR4 : Hid (RS p W4 r (wordM s o).2.1 d (wordM s o).2.2) := ⟨HR3.out.gl.fr f4 (fun k hk e => by have := H.out.lo; have := H.out.rd.lt; omega), HR3.out.rd.fr f4 (by have := H.out.rd.lt; omega), HR3.out.lo⟩
    have HF4 : Hid (Fr (· = r) w W4) := HF3.out.call f4 (fun i hi => .inr hi)
    have hK4 : W4.heap[w.heap.size + 2]? = some (.deferred (some [])) := k4 _ _ HK3.out (by simp) (by simp)
    gi_wp2
    obtain ⟨W5, hW5⟩ : ∃ W5, W4.putObj (w.heap.size + 2) (.deferred none) = W5 := ⟨_, rfl⟩
    have f5 : Fr (fun k => k = w.heap.size + 2) W4 W5 := by rw [← hW5]; exact putObj_fr (m := fun k => k = w.heap.size + 2) (Fr.refl _ _) (.inl rfl) _
    refine ⟨by simp, .inl ⟨_, W5, rfl, by rw [← hW5]; exact run_takeDeferred hK4, ?_⟩⟩
    refine ⟨_, results_tmp rfl _ _ _, ?_⟩
    exact ⟨rfl, ⟨HR4.out.gl.fr f5 (fun k hk e => by have := H.out.lo; have := H.out.rd.lt; omega), HR4.out.rd.fr f5 (by have := H.out.rd.lt; omega), H.out.lo⟩, HF4.out.call f5 (fun i hi => .inr (by omega))⟩
end Go.Proofs.YtakgcaehkphepaaGreatDoor
