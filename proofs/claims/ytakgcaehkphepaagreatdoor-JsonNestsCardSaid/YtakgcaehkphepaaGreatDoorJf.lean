/- strings.Builder: copyCheck, WriteByte, WriteString, WriteRune, String, over a builder of the call's own. -/
import Derived.Test.YtakgcaehkphepaaGreatDoorJe
namespace Go.Proofs.YtakgcaehkphepaaGreatDoor
open Go.RowKit
set_option linter.unusedVariables false
set_option linter.unusedSimpArgs false

/-- A builder in block b that holds l; its row (if it has one) lies from block B on. -/
def Bld (w : World) (B b : Nat) (l : Bs) : Prop :=
  b < B ∧ ∃ p v, (p = .pointer none ∨ p = .pointer (some ⟨b, 0, none⟩)) ∧ w.heap[b]? = some (.cells #[p, v] 90 (0, 0)) ∧ w.ownsRow B 5 1 v l.length (Lib.byteCells l)

theorem Bld.lt {w : World} {B b : Nat} {l : Bs} (h : Bld w B b l) : b < w.heap.size := by
  obtain ⟨_, p, v, _, hb, _⟩ := h; exact lt_of hb
theorem ownsRow_fr {m : Nat → Prop} {w w' : World} {B e sz n : Nat} {v : Value} {xs : List Value} (h : w.ownsRow B e sz v n xs) (f : Fr m w w') (hm : ∀ k, v.ownBlock = some k → ¬ m k) : w'.ownsRow B e sz v n xs := by
  obtain ⟨h1, h2⟩ := h
  refine ⟨h1, ?_⟩
  rcases h2 with h2 | ⟨g, cap, cur, hv, hg, hh, r⟩
  · exact Or.inl h2
  · exact Or.inr ⟨g, cap, cur, hv, hg, f.get hh (hm g (by rw [hv]; rfl)), r⟩
theorem ownsRow_ge {w : World} {B e sz n : Nat} {v : Value} {xs : List Value} (h : w.ownsRow B e sz v n xs) {k : Nat} (hk : v.ownBlock = some k) : B ≤ k ∧ k < w.heap.size := h.lt k hk
theorem ownsRow_base {w : World} {B B' e sz n : Nat} {v : Value} {xs : List Value} (h : w.ownsRow B e sz v n xs) (hB : B' ≤ B) : w.ownsRow B' e sz v n xs := by
  obtain ⟨h1, h2⟩ := h
  refine ⟨h1, ?_⟩
  rcases h2 with h2 | ⟨g, cap, cur, hv, hg, r⟩
  · exact Or.inl h2
  · exact Or.inr ⟨g, cap, cur, hv, Nat.le_trans hB hg, r⟩
theorem Bld.fr {m : Nat → Prop} {w w' : World} {B b : Nat} {l : Bs} (h : Bld w B b l) (f : Fr m w w') (hb : ¬ m b) (hg : ∀ k, B ≤ k → k < w.heap.size → ¬ m k) : Bld w' B b l := by
  obtain ⟨hB, p, v, hp, hh, ho⟩ := h
  exact ⟨hB, p, v, hp, f.get hh hb, ownsRow_fr ho f (fun k hk => hg k (ownsRow_ge ho hk).1 (ownsRow_ge ho hk).2)⟩
theorem Bld.new (w : World) (B : Nat) (hB : w.heap.size < B) : Bld (w.alloc (.cells #[.pointer none, .slice none 0 0] 90)) B w.heap.size [] :=
  ⟨hB, .pointer none, .slice none 0 0, .inl rfl, alloc_new _ _, ⟨rfl, .inl ⟨rfl, rfl⟩⟩⟩

theorem Ja.sizeB : (Tryz.prog.info? 90).map (·.size) = some 2 := by kernel_rfl
theorem Ja.liesB : liesAt Tryz.prog Tryz.prog.depth 90 (2 / Tryz.prog.cellsOf 90) 0 90 1 = true := by kernel_rfl
theorem Ja.infoByte : (Tryz.prog.info? 5).map (fun i => (i.zero, i.size, i.bytes)) = some (some (.int .u8 0), 1, 1) := by kernel_rfl

set_option maxHeartbeats 1000000 in
set_option maxRecDepth 100000 in
theorem copyCheck_used (b : Nat) (w : World) (h0 : w.cell? ⟨b, 0, none⟩ = some (.pointer (some ⟨b, 0, none⟩))) :
    Calls Tryz.prog 91 #[.pointer (some ⟨b, 0, none⟩)] w fun e w' => e = .returned (.tuple #[]) ∧ w' = w := by
  obtain ⟨j, hj, _⟩ := Option.map_eq_some_iff.1 Ja.sizeB
  go_enter Tryz.func91, Tryz.ntmps91
  go_wp2
  rw [Lib.run_neq_ptr_same w _ Tryz.underlying87 hj]
  go_wp2
  go_end0
  exact ⟨rfl, rfl⟩

set_option maxHeartbeats 1000000 in
set_option maxRecDepth 100000 in
theorem copyCheck_fresh (b : Nat) (w : World) (h0 : w.cell? ⟨b, 0, none⟩ = some (.pointer none)) (hsh : w.shape? b = some (90, 2)) (hfz : w.frozen? ⟨b, 0, none⟩ = false) :
    Calls Tryz.prog 91 #[.pointer (some ⟨b, 0, none⟩)] w fun e w' => e = .returned (.tuple #[]) ∧ w' = w.setCell ⟨b, 0, none⟩ (.pointer (some ⟨b, 0, none⟩)) := by
  obtain ⟨j, hj, hjs⟩ := Option.map_eq_some_iff.1 Ja.sizeB
  go_enter Tryz.func91, Tryz.ntmps91
  go_wp2
  rw [Lib.run_to_unsafe w ⟨b, 0, none⟩ Tryz.underlying87 Tryz.underlying111 hj (by rw [hjs]; decide) hsh (Nat.zero_lt_succ 1)]
  simp only [Result.andThen]
  rw [Oper.upon_value]
  go_wp2
  rw [run_callFunc_extern Tryz.func117 (by kernel_rfl) (by kernel_rfl) (by kernel_rfl) (e := Extern.AbiNoEscape.same) (by kernel_rfl)]
  rw [Lib.run_noEscape]
  simp only [Result.andThen]
  rw [Oper.upon_value]
  go_wp2
  rw [Lib.run_from_unsafe w ⟨b, 0, none⟩ Tryz.underlying111 Tryz.underlying87 hj hsh Ja.liesB]
  simp only [Result.andThen]
  rw [Oper.upon_value]
  go_wp2
  go_end0
  exact ⟨rfl, rfl⟩

theorem copyCheck_c (B b : Nat) (l : Bs) (w : World) (h : Bld w B b l) :
    Calls Tryz.prog 91 #[.pointer (some ⟨b, 0, none⟩)] w fun e w' => e = .returned (.tuple #[]) ∧ Fr (· = b) w w' ∧ ∃ v, w'.heap[b]? = some (.cells #[.pointer (some ⟨b, 0, none⟩), v] 90 (0, 0)) ∧ w'.ownsRow B 5 1 v l.length (Lib.byteCells l) := by
  obtain ⟨hB, p, v, hp, hh, ho⟩ := h
  rcases hp with rfl | rfl
  · refine (copyCheck_fresh b w (by rw [cell_of hh]; rfl) (by simp [World.shape?, hh]) (frozen_of hh 0)).mono ?_
    rintro e w' ⟨rfl, rfl⟩
    exact ⟨rfl, Fr.set' b 0 _ rfl, v, set_same hh 0 _, ownsRow_fr ho (Fr.set' (m := (· = b)) b 0 _ rfl) (fun k hk e => by have := (ownsRow_ge ho hk).1; omega)⟩
  · refine (copyCheck_used b w (by rw [cell_of hh]; rfl)).mono ?_
    rintro e w' ⟨rfl, rfl⟩
    exact ⟨rfl, Fr.refl _ _, v, hh, ho⟩

theorem Fr.of_grown {w w' : World} {row : Option Nat} (h : w.grownBy w' row) : Fr (fun k => some k = row) w w' :=
  ⟨h.os, h.tape, h.output, h.size, fun k hk hn => h.block k hk hn⟩

/-- What a writer does. -/
def Wrote (B b : Nat) (l : Bs) (w w' : World) : Prop := Bld w' B b l ∧ Fr (fun k => k = b ∨ B ≤ k) w w'
theorem own_form {w : World} {B e sz n : Nat} {v : Value} {xs : List Value} (h : w.ownsRow B e sz v n xs) : ∃ A c, v = .slice A n c := by
  rcases h.2 with ⟨hv, h0⟩ | ⟨g, cap, cur, hv, _⟩
  · exact ⟨none, 0, by rw [hv, h0]⟩
  · exact ⟨_, _, hv⟩

set_option maxHeartbeats 2000000 in
set_option maxRecDepth 100000 in
theorem writeByte_c (B b : Nat) (l : Bs) (c : UInt8) (w : World) (h : Bld w B b l) (hlen : l.length + 1 ≤ 140737488355328) (hBw : B ≤ w.heap.size) :
    Calls Tryz.prog 63 #[.pointer (some ⟨b, 0, none⟩), .int .u8 c.toNat] w fun e w' => e = .returned .nilIface ∧ Wrote B b (l ++ [c]) w w' := by
  obtain ⟨i0, hi, hz0, hz1, hz2⟩ := info_parts Ja.infoByte
  have hbB : b < B := h.1
  go_enter Tryz.func63, Tryz.ntmps63
  go_wp2_with (go_at_call 91; refine (copyCheck_c B b l _ h).mono ?_)
  rintro e w1 ⟨rfl, f1, v, hbk, hown⟩
  have c1 : w1.cell? ⟨b, 1, none⟩ = some v := by rw [cell_of hbk]; rfl
  go_wp2_with (at_builtin; refine wpList_append_own _ rfl _ _ 88 rfl B 5 i0 (.int .u8 0) 1 1 Tryz.underlying88 hi hz0 hz1 hz2 rfl (by decide) _ _ _ rfl (hown.alloc _) ⟨w1.heap.size, 0, none⟩ 1 1 [.int .u8 c.toNat] rfl rfl ?c1 ?c2 ?c3 ?c4 ?c5 ?_)
  case c1 =>
    intro j u hj
    match j, hj with
    | 0, hj => simp at hj; subst hj; simp [Addr.add]
  case c2 => intro u hu; simp at hu; subst hu; rfl
  case c3 => unfold maxLen; omega
  case c4 => omega
  case c5 => have := f1.size; simp; omega
  intro v' w2 hown' hgrow _
  have hlt : b < w1.heap.size := lt_of hbk
  have hne : ∀ k, v.ownBlock = some k → B ≤ k := fun k hk => (ownsRow_ge hown hk).1
  have F2 : Fr (fun k => some k = v.ownBlock) w1 w2 := ((Fr.refl _ _).alloc _).trans (Fr.of_grown hgrow)
  have hb2 : w2.heap[b]? = some (.cells #[.pointer (some ⟨b, 0, none⟩), v] 90 (0, 0)) := F2.get hbk (fun e => by have := hne b e.symm; omega)
  have d1 : w2.cell? ⟨b, 1, none⟩ = some v := by rw [cell_of hb2]; rfl
  have f1' : w2.frozen? ⟨b, 1, none⟩ = false := frozen_of hb2 1
  obtain ⟨ao, cap, rfl⟩ := own_form hown'
  have HF : Hid (Fr (fun k => k = b ∨ B ≤ k) w w2) := (f1.mono (fun k e => .inl e)).trans (F2.mono (fun k e => .inr (hne k e.symm)))
  clear f1 F2 hgrow
  go_wp2
  go_ret
  refine ⟨rfl, ⟨hbB, .pointer (some ⟨b, 0, none⟩), _, .inr rfl, set_same hb2 1 _, ?_⟩, HF.out.trans (Fr.set' b 1 _ (.inl rfl))⟩
  have := ownsRow_fr hown' (Fr.set' (m := (· = b)) b 1 (.slice ao (l.length + 1) cap) rfl) (fun k hk e => by have := (ownsRow_ge hown' hk).1; omega)
  simpa [Lib.byteCells] using this

set_option maxHeartbeats 2000000 in
set_option maxRecDepth 100000 in
theorem writeString_c (B b : Nat) (l s : Bs) (w : World) (h : Bld w B b l) (hlen : l.length + s.length ≤ 140737488355328) (hBw : B ≤ w.heap.size) :
    Calls Tryz.prog 64 #[.pointer (some ⟨b, 0, none⟩), .string (bs s)] w fun e w' => e = .returned (.tuple #[.int .i64 s.length, .nilIface]) ∧ Wrote B b (l ++ s) w w' := by
  obtain ⟨i0, hi, hz0, hz1, hz2⟩ := info_parts Ja.infoByte
  have hbB : b < B := h.1
  go_enter Tryz.func64, Tryz.ntmps64
  go_wp2_with (go_at_call 91; refine (copyCheck_c B b l _ h).mono ?_)
  rintro e w1 ⟨rfl, f1, v, hbk, hown⟩
  have c1 : w1.cell? ⟨b, 1, none⟩ = some v := by rw [cell_of hbk]; rfl
  go_wp2_with (at_builtin; refine Lib.wpList_append_own_string _ rfl _ _ 88 9 rfl B 5 i0 Tryz.underlying88 Tryz.underlying9 hi hz0 hz1 hz2 _ _ _ rfl hown (bs s) rfl ?c3 ?c4 ?c5 ?_)
  case c3 => rw [bs_size]; unfold maxLen; omega
  case c4 => rw [bs_size]; omega
  case c5 => have := f1.size; omega
  intro v' w2 hown' hgrow _
  have hlt : b < w1.heap.size := lt_of hbk
  have hne : ∀ k, v.ownBlock = some k → B ≤ k := fun k hk => (ownsRow_ge hown hk).1
  have F2 : Fr (fun k => some k = v.ownBlock) w1 w2 := Fr.of_grown hgrow
  have hb2 : w2.heap[b]? = some (.cells #[.pointer (some ⟨b, 0, none⟩), v] 90 (0, 0)) := F2.get hbk (fun e => by have := hne b e.symm; omega)
  have d1 : w2.cell? ⟨b, 1, none⟩ = some v := by rw [cell_of hb2]; rfl
  have f1' : w2.frozen? ⟨b, 1, none⟩ = false := frozen_of hb2 1
  obtain ⟨ao, cap, rfl⟩ := own_form hown'
  have HF : Hid (Fr (fun k => k = b ∨ B ≤ k) w w2) := (f1.mono (fun k e => .inl e)).trans (F2.mono (fun k e => .inr (hne k e.symm)))
  clear f1 F2 hgrow
  go_wp2
  go_ret2
  refine ⟨by simp only [bs_size]; rfl, ⟨hbB, .pointer (some ⟨b, 0, none⟩), _, .inr rfl, set_same hb2 1 _, ?_⟩, HF.out.trans (Fr.set' b 1 _ (.inl rfl))⟩
  have := ownsRow_fr hown' (Fr.set' (m := (· = b)) b 1 (.slice ao (l.length + (bs s).size) cap) rfl) (fun k hk e => by have := (ownsRow_ge hown' hk).1; omega)
  simpa [Lib.byteCells, Lib.strCells, bs_size, bs_data] using this

/-- The bytes of a rune. -/
def runeB (r : Int) : Bs := (Lib.encodeRuneZ r).map fun x => x.toNat.toUInt8
theorem runeCells_eq (r : Int) : Lib.runeCells r = Lib.byteCells (runeB r) := by
  unfold Lib.runeCells Lib.byteCells runeB
  rw [List.map_map]
  apply List.map_congr_left
  intro x hx
  have : 0 ≤ x ∧ x < 256 := by
    unfold Lib.encodeRuneZ at hx
    repeat' split at hx
    all_goals simp at hx
    all_goals omega
  simp only [Function.comp, Value.int.injEq, true_and]
  simp only [Nat.toUInt8, UInt8.toNat_ofNat']
  omega

set_option maxHeartbeats 2000000 in
set_option maxRecDepth 100000 in
theorem writeRune_c (B b : Nat) (l : Bs) (r : Int) (hr0 : -2147483648 ≤ r) (hr1 : r ≤ 2147483647) (w : World) (h : Bld w B b l) (hlen : l.length + 4 ≤ 140737488355328) (hBw : B ≤ w.heap.size) :
    Calls Tryz.prog 65 #[.pointer (some ⟨b, 0, none⟩), .int .i32 r] w fun e w' => (∃ n : Int, e = .returned (.tuple #[.int .i64 n, .nilIface])) ∧ Wrote B b (l ++ runeB r) w w' := by
  have hbB : b < B := h.1
  have hk4 := Lib.runeCells_le r
  go_enter Tryz.func65, Tryz.ntmps65
  go_wp2_with (go_at_call 91; refine (copyCheck_c B b l _ h).mono ?_)
  rintro e w1 ⟨rfl, f1, v, hbk, hown⟩
  obtain ⟨a1, k1, rfl⟩ := own_form hown
  have c1 : w1.cell? ⟨b, 1, none⟩ = some (.slice a1 l.length k1) := by rw [cell_of hbk]; rfl
  go_wp2_with (go_at_call 92; refine (Tryz.utf8_AppendRune_plain B _ l.length _ r hr0 hr1 _ hown hlen (by have := f1.size; omega)).mono ?_)
  rintro e w2 ⟨v', rfl, hown', o, hgrow⟩
  have hlt : b < w1.heap.size := lt_of hbk
  have hne : ∀ k, (Value.slice a1 l.length k1).ownBlock = some k → B ≤ k := fun k hk => (ownsRow_ge hown hk).1
  have F2 : Fr (fun k => some k = (Value.slice a1 l.length k1).ownBlock) w1 w2 := ((Fr.refl _ _).alloc _).trans (Fr.of_grown hgrow)
  have hb2 : w2.heap[b]? = some (.cells #[.pointer (some ⟨b, 0, none⟩), .slice a1 l.length k1] 90 (0, 0)) := F2.get hbk (fun e => by have := hne b e.symm; omega)
  have d1 : w2.cell? ⟨b, 1, none⟩ = some (.slice a1 l.length k1) := by rw [cell_of hb2]; rfl
  have f1' : w2.frozen? ⟨b, 1, none⟩ = false := frozen_of hb2 1
  obtain ⟨ao, cap, rfl⟩ := own_form hown'
  have HF : Hid (Fr (fun k => k = b ∨ B ≤ k) w w2) := (f1.mono (fun k e => .inl e)).trans (F2.mono (fun k e => .inr (hne k e.symm)))
  clear f1 F2 hgrow
  go_wp2
  go_ret2
  refine ⟨⟨_, rfl⟩, ⟨hbB, .pointer (some ⟨b, 0, none⟩), _, .inr rfl, set_same hb2 1 _, ?_⟩, HF.out.trans (Fr.set' b 1 _ (.inl rfl))⟩
  have := ownsRow_fr hown' (Fr.set' (m := (· = b)) b 1 (.slice ao (l.length + (Lib.runeCells r).length) cap) rfl) (fun k hk e => by have := (ownsRow_ge hown' hk).1; omega)
  have e1 : Lib.byteCells (l ++ runeB r) = Lib.byteCells l ++ Lib.runeCells r := by rw [runeCells_eq]; simp [Lib.byteCells]
  have e2 : (l ++ runeB r).length = l.length + (Lib.runeCells r).length := by rw [runeCells_eq]; simp [Lib.byteCells]
  rw [e1, e2]
  exact this

theorem string_c (B b : Nat) (l : Bs) (w : World) (h : Bld w B b l) :
    Calls Tryz.prog 66 #[.pointer (some ⟨b, 0, none⟩)] w fun e w' => e = .returned (.string (bs l)) ∧ Fr (fun k => b ≤ k) w w' := by
  have hlt := h.lt
  obtain ⟨hB, p, v, hp, hh, ho⟩ := h
  have hA : Lib.BuilderAt 90 5 b b p (Lib.byteCells l) w := ⟨Nat.le_refl _, v, hh, by rw [Lib.byteCells_length]; exact ownsRow_base ho (by omega), fun e => by have := (ownsRow_ge ho e).1; omega⟩
  have hI : Lib.IsBuilder 90 5 b b (Lib.byteCells l) w := by
    rcases hp with rfl | rfl
    · exact .inl hA
    · exact .inr hA
  refine (Tryz.Builder_String_any b b l w hI (by omega)).mono ?_
  rintro e w' ⟨rfl, hb⟩
  exact ⟨rfl, ⟨hb.os, hb.tape, hb.output, hb.size, fun k hk hn => hb.block k (by omega)⟩⟩
end Go.Proofs.YtakgcaehkphepaaGreatDoor
