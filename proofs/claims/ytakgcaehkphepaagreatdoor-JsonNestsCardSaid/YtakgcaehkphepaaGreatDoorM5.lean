/- json.Right; slices.EqualFunc, json.Same. -/
import Derived.Test.YtakgcaehkphepaaGreatDoorM4
import Derived.Test.YtakgcaehkphepaaGreatDoorPf
import Derived.Lib.OthersKept
import Derived.StillTailTactics
namespace Go.Proofs.YtakgcaehkphepaaGreatDoor
open Go.RowKit
set_option linter.unusedVariables false
set_option linter.unusedSimpArgs false

theorem isV_right (k : Nat) (kind : Int) (yes : Bool) (n : Int) (s : Bs) (keys : List Bs) (l : List J) :
    (isVal (.mk kind yes n s keys l) ((k : Int) + 1) && l.all (rightM k)) = rightM (k + 1) (.mk kind yes n s keys l) := by
  rw [isVal_V, rightM_mk, leafR_mk]
  unfold isV
  have hm : decide ((0 : Int) < (k : Int) + 1) = true := decide_eq_true (by omega)
  rw [hm]
  by_cases h4 : kind = 4
  · subst h4; simp [Bool.and_assoc]
  by_cases h5 : kind = 5
  · subst h5; simp [Bool.and_assoc]
  rw [if_neg h4, if_neg h5, if_neg h4, if_neg h5]
  have hl : ∀ X Y : Bool, ((decide (l.length = 0) && X && Y) && l.all (rightM k)) = (decide (l.length = 0) && X && Y) := by
    intro X Y
    cases l with
    | nil => simp
    | cons a r => simp
  by_cases h0 : kind = 0
  · subst h0; simp; cases l <;> simp
  by_cases h1 : kind = 1
  · subst h1; simp; cases l <;> simp
  by_cases h2 : kind = 2
  · subst h2; simp; cases l <;> simp
  by_cases h3 : kind = 3
  · subst h3; simp; cases l <;> simp
  · simp [h0, h1, h2, h3]
theorem isV_right0 (kind : Int) (yes : Bool) (n : Int) (s : Bs) (keys : List Bs) (l : List J) :
    isVal (.mk kind yes n s keys l) 0 = rightM 0 (.mk kind yes n s keys l) := by
  rw [isVal_V]
  show _ = leafR (.mk kind yes n s keys l)
  rw [leafR_mk]
  unfold isV
  by_cases h4 : kind = 4
  · subst h4; simp
  by_cases h5 : kind = 5
  · subst h5; simp
  rw [if_neg h4, if_neg h5]
theorem right_ok (p : Value) : ∀ k : Nat, k ≤ 100 → RightOk p k (rightM k)
  | 0, hk => by
    intro ok j kv lv w g hj hz
    refine (isRight_c p 0 (by decide) (by decide) (fun _ => true) (fun h => absurd h (by decide)) ok j kv lv w g hj hz).mono ?_
    rintro e w' ⟨he, hf⟩
    obtain ⟨kind, yes, n, s, keys, l⟩ := j
    rw [isV_right0] at he
    have ha : (J.mk kind yes n s keys l).l.all (fun _ => true) = true := by simp
    rw [ha, Bool.and_true] at he
    exact ⟨he, hf⟩
  | k + 1, hk => by
    intro ok j kv lv w g hj hz
    have ih := right_ok p k (by omega)
    rw [show ((k + 1 : Nat) : Int) = (k : Int) + 1 from by omega]
    refine (isRight_c p ((k : Int) + 1) (by omega) (by omega) (rightM k) (fun _ => by rw [Int.add_sub_cancel]; exact ih) ok j kv lv w g hj hz).mono ?_
    rintro e w' ⟨he, hf⟩
    obtain ⟨kind, yes, n, s, keys, l⟩ := j
    have := isV_right k kind yes n s keys l
    rw [show (J.mk kind yes n s keys l).l = l from rfl, this] at he
    exact ⟨he, hf⟩
set_option maxHeartbeats 1000000 in
theorem right_c (p : Value) (ok : Nat → Prop) (j : J) (kv lv : Value) (w : World) (g : Gl p w) (hj : JAt w ok j kv lv) (hz : JSz 1000000000 j) :
    Calls Tryz.prog 24 #[jVal j kv lv] w fun e w' => e = .returned (.bool (rightM 64 j)) ∧ Fr none' w w' := by
  obtain ⟨kA, kn, kc, lA, ln, lc, rfl, rfl⟩ := hj.form
  have F1 : Fr none' w (w.alloc (.cells #[.int .i64 j.kind, .bool j.yes, .int .i64 j.n, .string (bs j.s), .slice kA kn kc, .slice lA ln lc] 26)) := (Fr.refl _ _).alloc _
  have HG := Lib.hid (g.fr0 F1)
  have HJ := Lib.hid (hj.fr F1 (fun _ _ => id))
  have HF := Lib.hid F1
  clear F1 g hj
  unfold jVal
  go_enter Tryz.func24, Tryz.ntmps24
  go_wp2_with fail
  refine (right_ok p 64 (by decide) ok j _ _ _ HG.out HJ.out hz).mono ?_
  rintro e w2 ⟨rfl, f2⟩
  go_wp2
  go_ret
  exact ⟨rfl, HF.out.trans f2⟩
end Go.Proofs.YtakgcaehkphepaaGreatDoor

/- The builder's writers, with a string's iterator beside them. -/
namespace Go.Proofs.YtakgcaehkphepaaGreatDoor
open Go.RowKit
set_option linter.unusedVariables false
set_option linter.unusedSimpArgs false

/-- Every string's iterator stays. -/
def Iters (w w' : World) : Prop := ∀ (k : Nat) (s : ByteArray) (pos : Nat), w.heap[k]? = some (.stringIter s pos) → w'.heap[k]? = some (.stringIter s pos)
theorem Iters.trans {a b c : World} (h : Iters a b) (k : Iters b c) : Iters a c := fun i s p hi => k i s p (h i s p hi)
theorem Iters.refl (a : World) : Iters a a := fun i s p hi => hi
theorem Iters.fr {w w' : World} (f : Fr none' w w') : Iters w w' := fun k s pos hk => f.get hk id
theorem iter_ne {w : World} {b : Nat} {c : Array Value} {e : TypeId} {z : Nat × Nat} (hb : w.heap[b]? = some (.cells c e z)) {k : Nat} {s : ByteArray} {pos : Nat} (hk : w.heap[k]? = some (.stringIter s pos)) : k ≠ b := by
  rintro rfl
  rw [hb] at hk
  cases hk
theorem iter_own {w : World} {B e sz n : Nat} {v : Value} {xs : List Value} (h : w.ownsRow B e sz v n xs) {k : Nat} {s : ByteArray} {pos : Nat} (hk : w.heap[k]? = some (.stringIter s pos)) : ¬ some k = v.ownBlock := by
  intro e
  rcases h.2 with ⟨rfl, _⟩ | ⟨g, cap, cur, rfl, _, hg, _⟩
  · cases e
  · injection e with e
    exact iter_ne hg hk e
/-- Behind a writer's steps. -/
theorem iters_wrote {w w1 w2 : World} {B b : Nat} {l : Bs} {v u : Value} {xs : List Value} {n : Nat} (h : Bld w B b l) (f1 : Fr (fun k => k = b) w w1) {c : Array Value} (hbk : w1.heap[b]? = some (.cells c 90 (0, 0))) (hown : w1.ownsRow B 5 1 v n xs) (f2 : Fr (fun k => some k = v.ownBlock) w1 w2) : Iters w (w2.setCell ⟨b, 1, none⟩ u) := by
  intro k s pos hk
  obtain ⟨hB, p, v', hp, hh, ho⟩ := h
  have hne := iter_ne hh hk
  have h1 := f1.get hk hne
  exact set_other (f2.get h1 (iter_own hown h1)) _ _ hne

set_option maxHeartbeats 2000000 in
set_option maxRecDepth 100000 in
theorem writeByte_i (B b : Nat) (l : Bs) (c : UInt8) (w : World) (h : Bld w B b l) (hlen : l.length + 1 ≤ 140737488355328) (hBw : B ≤ w.heap.size) :
    Calls Tryz.prog 63 #[.pointer (some ⟨b, 0, none⟩), .int .u8 c.toNat] w fun e w' => e = .returned .nilIface ∧ Wrote B b (l ++ [c]) w w' ∧ Iters w w' := by
  obtain ⟨i0, hi, hz0, hz1, hz2⟩ := info_parts Ja.infoByte
  have hbB : b < B := h.1
  go_enter Tryz.func63, Tryz.ntmps63
  go_wp2_with (go_at_call 91; refine (copyCheck_c B b l _ h).mono ?_)
  rintro e w1 ⟨rfl, f1, v, hbk, hown⟩
  have c1 : w1.cell? ⟨b, 1, none⟩ = some v := by rw [cell_of hbk]; rfl
  go_wp2_with (at_builtin; refine wpList_append_own _ rfl _ _ 88 rfl B 5 i0 (.int .u8 0) 1 1 Tryz.underlying88 hi hz0 hz1 hz2 rfl (by decide) _ _ _ rfl (hown.alloc _) ⟨w1.heap.size, 0, none⟩ 1 1 [.int .u8 c.toNat] rfl rfl ?c1 ?c2 ?c3 ?c4 ?c5 ?_)
  case c1 =>
    intro j u hj
    match j, hj with
    | 0, hj => simp at hj; subst hj; simp [Addr.add]
  case c2 => intro u hu; simp at hu; subst hu; rfl
  case c3 => unfold maxLen; omega
  case c4 => omega
  case c5 => have := f1.size; simp; omega
  intro v' w2 hown' hgrow _
  have hlt : b < w1.heap.size := lt_of hbk
  have hne : ∀ k, v.ownBlock = some k → B ≤ k := fun k hk => (ownsRow_ge hown hk).1
  have F2 : Fr (fun k => some k = v.ownBlock) w1 w2 := ((Fr.refl _ _).alloc _).trans (Fr.of_grown hgrow)
  have hb2 : w2.heap[b]? = some (.cells #[.pointer (some ⟨b, 0, none⟩), v] 90 (0, 0)) := F2.get hbk (fun e => by have := hne b e.symm; omega)
  have d1 : w2.cell? ⟨b, 1, none⟩ = some v := by rw [cell_of hb2]; rfl
  have f1' : w2.frozen? ⟨b, 1, none⟩ = false := frozen_of hb2 1
  obtain ⟨ao, cap, rfl⟩ := own_form hown'
  have HIT : Hid (∀ u, Iters w (w2.setCell ⟨b, 1, none⟩ u)) := fun u => iters_wrote h f1 hbk hown F2
  have HF : Hid (Fr (fun k => k = b ∨ B ≤ k) w w2) := (f1.mono (fun k e => .inl e)).trans (F2.mono (fun k e => .inr (hne k e.symm)))
  clear f1 F2 hgrow
  go_wp2
  go_ret
  refine ⟨rfl, ⟨⟨hbB, .pointer (some ⟨b, 0, none⟩), _, .inr rfl, set_same hb2 1 _, ?_⟩, HF.out.trans (Fr.set' b 1 _ (.inl rfl))⟩, HIT.out _⟩
  have := ownsRow_fr hown' (Fr.set' (m := (· = b)) b 1 (.slice ao (l.length + 1) cap) rfl) (fun k hk e => by have := (ownsRow_ge hown' hk).1; omega)
  simpa [Lib.byteCells] using this

set_option maxHeartbeats 2000000 in
set_option maxRecDepth 100000 in
theorem writeString_i (B b : Nat) (l s : Bs) (w : World) (h : Bld w B b l) (hlen : l.length + s.length ≤ 140737488355328) (hBw : B ≤ w.heap.size) :
    Calls Tryz.prog 64 #[.pointer (some ⟨b, 0, none⟩), .string (bs s)] w fun e w' => e = .returned (.tuple #[.int .i64 s.length, .nilIface]) ∧ Wrote B b (l ++ s) w w' ∧ Iters w w' := by
  obtain ⟨i0, hi, hz0, hz1, hz2⟩ := info_parts Ja.infoByte
  have hbB : b < B := h.1
  go_enter Tryz.func64, Tryz.ntmps64
  go_wp2_with (go_at_call 91; refine (copyCheck_c B b l _ h).mono ?_)
  rintro e w1 ⟨rfl, f1, v, hbk, hown⟩
  have c1 : w1.cell? ⟨b, 1, none⟩ = some v := by rw [cell_of hbk]; rfl
  go_wp2_with (at_builtin; refine Lib.wpList_append_own_string _ rfl _ _ 88 9 rfl B 5 i0 Tryz.underlying88 Tryz.underlying9 hi hz0 hz1 hz2 _ _ _ rfl hown (bs s) rfl ?c3 ?c4 ?c5 ?_)
  case c3 => rw [bs_size]; unfold maxLen; omega
  case c4 => rw [bs_size]; omega
  case c5 => have := f1.size; omega
  intro v' w2 hown' hgrow _
  have hlt : b < w1.heap.size := lt_of hbk
  have hne : ∀ k, v.ownBlock = some k → B ≤ k := fun k hk => (ownsRow_ge hown hk).1
  have F2 : Fr (fun k => some k = v.ownBlock) w1 w2 := Fr.of_grown hgrow
  have hb2 : w2.heap[b]? = some (.cells #[.pointer (some ⟨b, 0, none⟩), v] 90 (0, 0)) := F2.get hbk (fun e => by have := hne b e.symm; omega)
  have d1 : w2.cell? ⟨b, 1, none⟩ = some v := by rw [cell_of hb2]; rfl
  have f1' : w2.frozen? ⟨b, 1, none⟩ = false := frozen_of hb2 1
  obtain ⟨ao, cap, rfl⟩ := own_form hown'
  have HIT : Hid (∀ u, Iters w (w2.setCell ⟨b, 1, none⟩ u)) := fun u => iters_wrote h f1 hbk hown F2
  have HF : Hid (Fr (fun k => k = b ∨ B ≤ k) w w2) := (f1.mono (fun k e => .inl e)).trans (F2.mono (fun k e => .inr (hne k e.symm)))
  clear f1 F2 hgrow
  go_wp2
  go_ret2
  refine ⟨by simp only [bs_size]; rfl, ⟨⟨hbB, .pointer (some ⟨b, 0, none⟩), _, .inr rfl, set_same hb2 1 _, ?_⟩, HF.out.trans (Fr.set' b 1 _ (.inl rfl))⟩, HIT.out _⟩
  have := ownsRow_fr hown' (Fr.set' (m := (· = b)) b 1 (.slice ao (l.length + (bs s).size) cap) rfl) (fun k hk e => by have := (ownsRow_ge hown' hk).1; omega)
  simpa [Lib.byteCells, Lib.strCells, bs_size, bs_data] using this

set_option maxHeartbeats 2000000 in
set_option maxRecDepth 100000 in
theorem writeRune_i (B b : Nat) (l : Bs) (r : Int) (hr0 : -2147483648 ≤ r) (hr1 : r ≤ 2147483647) (w : World) (h : Bld w B b l) (hlen : l.length + 4 ≤ 140737488355328) (hBw : B ≤ w.heap.size) :
    Calls Tryz.prog 65 #[.pointer (some ⟨b, 0, none⟩), .int .i32 r] w fun e w' => (∃ n : Int, e = .returned (.tuple #[.int .i64 n, .nilIface])) ∧ Wrote B b (l ++ runeB r) w w' ∧ Iters w w' := by
  have hbB : b < B := h.1
  have hk4 := Lib.runeCells_le r
  go_enter Tryz.func65, Tryz.ntmps65
  go_wp2_with (go_at_call 91; refine (copyCheck_c B b l _ h).mono ?_)
  rintro e w1 ⟨rfl, f1, v, hbk, hown⟩
  obtain ⟨a1, k1, rfl⟩ := own_form hown
  have c1 : w1.cell? ⟨b, 1, none⟩ = some (.slice a1 l.length k1) := by rw [cell_of hbk]; rfl
  go_wp2_with (go_at_call 92; refine (Tryz.utf8_AppendRune_plain B _ l.length _ r hr0 hr1 _ hown hlen (by have := f1.size; omega)).mono ?_)
  rintro e w2 ⟨v', rfl, hown', o, hgrow⟩
  have hlt : b < w1.heap.size := lt_of hbk
  have hne : ∀ k, (Value.slice a1 l.length k1).ownBlock = some k → B ≤ k := fun k hk => (ownsRow_ge hown hk).1
  have F2 : Fr (fun k => some k = (Value.slice a1 l.length k1).ownBlock) w1 w2 := ((Fr.refl _ _).alloc _).trans (Fr.of_grown hgrow)
  have hb2 : w2.heap[b]? = some (.cells #[.pointer (some ⟨b, 0, none⟩), .slice a1 l.length k1] 90 (0, 0)) := F2.get hbk (fun e => by have := hne b e.symm; omega)
  have d1 : w2.cell? ⟨b, 1, none⟩ = some (.slice a1 l.length k1) := by rw [cell_of hb2]; rfl
  have f1' : w2.frozen? ⟨b, 1, none⟩ = false := frozen_of hb2 1
  obtain ⟨ao, cap, rfl⟩ := own_form hown'
  have HIT : Hid (∀ u, Iters w (w2.setCell ⟨b, 1, none⟩ u)) := fun u => iters_wrote h f1 hbk hown F2
  have HF : Hid (Fr (fun k => k = b ∨ B ≤ k) w w2) := (f1.mono (fun k e => .inl e)).trans (F2.mono (fun k e => .inr (hne k e.symm)))
  clear f1 F2 hgrow
  go_wp2
  go_ret2
  refine ⟨⟨_, rfl⟩, ⟨⟨hbB, .pointer (some ⟨b, 0, none⟩), _, .inr rfl, set_same hb2 1 _, ?_⟩, HF.out.trans (Fr.set' b 1 _ (.inl rfl))⟩, HIT.out _⟩
  have := ownsRow_fr hown' (Fr.set' (m := (· = b)) b 1 (.slice ao (l.length + (Lib.runeCells r).length) cap) rfl) (fun k hk e => by have := (ownsRow_ge hown' hk).1; omega)
  have e1 : Lib.byteCells (l ++ runeB r) = Lib.byteCells l ++ Lib.runeCells r := by rw [runeCells_eq]; simp [Lib.byteCells]
  have e2 : (l ++ runeB r).length = l.length + (Lib.runeCells r).length := by rw [runeCells_eq]; simp [Lib.byteCells]
  rw [e1, e2]
  exact this

end Go.Proofs.YtakgcaehkphepaaGreatDoor

/- json.quoted. -/
namespace Go.Proofs.YtakgcaehkphepaaGreatDoor
open Go.RowKit
set_option linter.unusedVariables false
set_option linter.unusedSimpArgs false

theorem dec_drop (s : Bs) (pos : Nat) : Utf8.decode (bs s) pos = Lib.decodeL (s.drop pos) := by
  rw [Lib.decode_N, Lib.decodeL_N, bs_data]
  simp [List.getD_eq_getElem?_getD, List.getElem?_drop]
theorem byteL (n : Int) (h : 0 ≤ n) (h' : n < 256) (c : UInt8) (e : n = c.toNat) : n.toNat.toUInt8 = c := by
  subst e
  simp
theorem multi_enc {u : Bs} {r : Nat} (m : Multi u r) : runeB r = u := by
  have hd := m.dec []
  rw [List.append_nil, Lib.decodeL_N] at hd
  have h2 := m.two
  have hb := m.big
  have hc : 128 ≤ (u.getD 0 0).toNat := by
    obtain ⟨c, v, rfl, hc⟩ := m.head
    simpa using hc
  unfold Lib.decodeN at hd
  rw [if_neg (by omega)] at hd
  have mk : ∀ (n : Nat) (c : UInt8), n = c.toNat → ((n : Int).toNat.toUInt8) = c := fun n c e => by subst e; simp
  split at hd
  · rename_i h
    split at hd
    · simp only [Prod.mk.injEq] at hd
      obtain ⟨e1, e2⟩ := hd
      obtain ⟨a, b, rfl⟩ : ∃ a b, u = [a, b] := by
        rcases u with _ | ⟨a, _ | ⟨b, _ | ⟨c, l⟩⟩⟩ <;> simp at e2
        exact ⟨a, b, rfl⟩
      simp only [List.getD_cons_zero, List.getD_cons_succ] at e1 h
      have ha := a.toNat_lt
      have hb' := b.toNat_lt
      unfold runeB
      rw [Lib.encodeRuneZ_two (by omega) (by omega)]
      simp only [List.map_cons, List.map_nil]
      rw [byteL _ (by omega) (by omega) a (by omega), byteL _ (by omega) (by omega) b (by omega)]
    · simp only [Prod.mk.injEq] at hd; omega
  · split at hd
    · rename_i h
      split at hd
      · rename_i hr
        simp only [Prod.mk.injEq] at hd
        obtain ⟨e1, e2⟩ := hd
        obtain ⟨a, b, c, rfl⟩ : ∃ a b c, u = [a, b, c] := by
          rcases u with _ | ⟨a, _ | ⟨b, _ | ⟨c, _ | ⟨d, l⟩⟩⟩⟩ <;> simp at e2
          exact ⟨a, b, c, rfl⟩
        simp only [List.getD_cons_zero, List.getD_cons_succ] at e1 h hr
        have ha := a.toNat_lt
        have hb' := b.toNat_lt
        have hc' := c.toNat_lt
        unfold runeB
        rw [Lib.encodeRuneZ_three (by omega)]
        simp only [List.map_cons, List.map_nil]
        rw [byteL _ (by omega) (by omega) a (by omega), byteL _ (by omega) (by omega) b (by omega), byteL _ (by omega) (by omega) c (by omega)]
      · simp only [Prod.mk.injEq] at hd; omega
    · split at hd
      · rename_i h
        split at hd
        · rename_i hr
          simp only [Prod.mk.injEq] at hd
          obtain ⟨e1, e2⟩ := hd
          obtain ⟨a, b, c, d, rfl⟩ : ∃ a b c d, u = [a, b, c, d] := by
            rcases u with _ | ⟨a, _ | ⟨b, _ | ⟨c, _ | ⟨d, _ | ⟨e, l⟩⟩⟩⟩⟩ <;> simp at e2
            exact ⟨a, b, c, d, rfl⟩
          simp only [List.getD_cons_zero, List.getD_cons_succ] at e1 h hr
          have ha := a.toNat_lt
          have hb' := b.toNat_lt
          have hc' := c.toNat_lt
          have hd' := d.toNat_lt
          unfold runeB
          rw [Lib.encodeRuneZ_four (by omega) (by omega)]
          simp only [List.map_cons, List.map_nil]
          rw [byteL _ (by omega) (by omega) a (by omega), byteL _ (by omega) (by omega) b (by omega), byteL _ (by omega) (by omega) c (by omega), byteL _ (by omega) (by omega) d (by omega)]
        · simp only [Prod.mk.injEq] at hd; omega
      · simp only [Prod.mk.injEq] at hd; omega
theorem rune_ascii (c : UInt8) (h : c.toNat < 128) : runeB (c.toNat : Int) = [c] := by
  unfold runeB
  rw [Lib.encodeRuneZ_one (by omega) (by omega)]
  simp
/-- What a builder holds, with the iterator beside it. -/
structure QS (w wr : World) (k0 : Nat) (s : Bs) (pos : Nat) (acc : Bs) : Prop where
  bl : Bld wr (w.heap.size + 1) w.heap.size acc
  it : wr.heap[k0]? = some (.stringIter (bs s) pos)
  fr : Fr none' w wr
  k : w.heap.size < k0
theorem QS.wrote {w wr w2 : World} {k0 : Nat} {s : Bs} {pos : Nat} {acc acc' : Bs} (h : QS w wr k0 s pos acc) (hw : Wrote (w.heap.size + 1) w.heap.size acc' wr w2) (hi : Iters wr w2) : QS w w2 k0 s pos acc' :=
  ⟨hw.1, hi _ _ _ h.it, h.fr.call hw.2 (fun i hi => .inr (by omega)), h.k⟩
theorem Bld.iterAt {w : World} {B b : Nat} {l : Bs} (h : Bld w B b l) {k : Nat} {s : ByteArray} {pos : Nat} (hk : w.heap[k]? = some (.stringIter s pos)) (pos' : Nat) : Bld (w.iterAt k s pos') B b l := by
  obtain ⟨hB, p, v, hp, hh, ho⟩ := h
  have f : Fr (fun i => i = k) w (w.iterAt k s pos') := ⟨rfl, rfl, rfl, by rw [Lib.iterAt_size]; exact Nat.le_refl _, fun i hi hn => Lib.iterAt_other w k i s pos' hn⟩
  exact ⟨hB, p, v, hp, f.get hh (fun e => iter_ne hh hk e.symm), ownsRow_fr ho f (fun i hi e => iter_own ho hk (by rw [← e, hi]))⟩
theorem QS.iterAt {w wr : World} {k0 : Nat} {s : Bs} {pos : Nat} {acc : Bs} (h : QS w wr k0 s pos acc) (pos' : Nat) : QS w (wr.iterAt k0 (bs s) pos') k0 s pos' acc :=
  ⟨h.bl.iterAt h.it _, Lib.iterAt_heap _ _ _ _ _ h.it, h.fr.call (m' := fun i => i = k0) ⟨rfl, rfl, rfl, by rw [Lib.iterAt_size]; exact Nat.le_refl _, fun i hi hn => Lib.iterAt_other _ k0 i _ pos' hn⟩ (fun i hi => .inr (by have := h.k; omega)), h.k⟩

theorem QS.pos {w wr : World} {k0 : Nat} {s : Bs} {pos : Nat} {acc : Bs} (h : QS w wr k0 s pos acc) : wr.iterPos k0 = pos := by simp only [World.iterPos, h.it]
theorem qb_len (c : UInt8) : (qb c).length ≤ 6 := by
  unfold qb
  split
  · simp
  · split <;> simp
theorem qs_len : ∀ s : Bs, (qs s).length ≤ 6 * s.length
  | [] => by simp [qs]
  | c :: r => by
    have h1 := qb_len c
    have h2 := qs_len r
    rw [qs_cons, List.length_append, List.length_cons]; omega
theorem take_step {s u t : Bs} {pos : Nat} (h : s.drop pos = u ++ t) (hp : pos ≤ s.length) : s.take (pos + u.length) = s.take pos ++ u ∧ s.drop (pos + u.length) = t ∧ pos + u.length ≤ s.length := by
  refine ⟨?_, ?_, ?_⟩
  · rw [List.take_add, h, List.take_left]
  · rw [← List.drop_drop, h, List.drop_left]
  · have := congrArg List.length h
    rw [List.length_drop, List.length_append] at this
    omega
theorem hexA_at : ∀ n : Fin 16, (⟨#[48, 49, 50, 51, 52, 53, 54, 55, 56, 57, 97, 98, 99, 100, 101, 102]⟩ : ByteArray)[n.val]'(by have := n.isLt; exact this) = hexC n.val := by decide +kernel
theorem hexA_get (n : Nat) (hn : n < 16) (h : n < (⟨#[48, 49, 50, 51, 52, 53, 54, 55, 56, 57, 97, 98, 99, 100, 101, 102]⟩ : ByteArray).size) : (⟨#[48, 49, 50, 51, 52, 53, 54, 55, 56, 57, 97, 98, 99, 100, 101, 102]⟩ : ByteArray)[n] = hexC n := hexA_at ⟨n, hn⟩
theorem and15 (n : Nat) (h : n < 32) : bits BinOp.and IntKind.i32 (n : Int) 15 = (n : Int) % 16 := by
  have key : ∀ m : Fin 32, bits BinOp.and IntKind.i32 (m.val : Int) 15 = (m.val : Int) % 16 := by decide +kernel
  exact key ⟨n, h⟩
set_option maxHeartbeats 4000000 in
set_option maxRecDepth 100000 in
theorem quoted_c (s : Bs) (hv : Lib.validD s = true) (hN : s.length ≤ 1000000000) (w : World) :
    Calls Tryz.prog 38 #[.string (bs s)] w fun e w' => e = .returned (.string (bs (quoteB s))) ∧ Fr none' w w' := by
  have HB0 := Lib.hid (Bld.new w (w.heap.size + 1) (by omega))
  have HV := Lib.hid hv
  clear hv
  go_enter Tryz.func38, Tryz.ntmps38
  go_wp2_with fail
  refine (writeByte_i (w.heap.size + 1) w.heap.size [] 34 _ HB0.out (by simp) (by simp)).mono ?_
  rintro e w1 ⟨rfl, hw1, hi1⟩
  have HQ0 : Hid (QS w (w1.iter (bs s) 0) w1.heap.size s 0 [34]) := ⟨hw1.1.fr (m := none') ((Fr.refl _ _).alloc _) id (fun _ _ _ => id), World.iter_heap _ _ _, (((Fr.refl none' w).alloc _).call hw1.2 (fun i hi => .inr (by omega))).trans ((Fr.refl none' _).alloc _), by have := hw1.1.lt; exact this⟩
  clear hw1 hi1
  go_wp2
  go_loopw [5] (fun _ wr => ∃ (pos : Nat), QS w wr w1.heap.size s pos (34 :: qs (s.take pos)) ∧ pos ≤ s.length ∧ Lib.validD (s.drop pos) = true) (fun _ wr => s.length - wr.iterPos w1.heap.size)
  case atStart => exact ⟨0, by simpa [qs] using HQ0.out, by omega, by simpa using HV.out⟩
  case round =>
    obtain ⟨pos, hq, hpos, hval⟩ := hrel
    have HQ := Lib.hid hq
    have HVL := Lib.hid hval
    clear hq hval HQ0 HB0
    have hql : (34 :: qs (s.take pos)).length ≤ 6000000002 := by
      have := qs_len (s.take pos)
      rw [List.length_take] at this
      rw [List.length_cons]; omega
    have HPOS := Lib.hid HQ.out.pos
    by_cases hp : pos < s.length
    · have hp' : pos < (bs s).size := by rw [bs_size]; exact hp
      have hnx : ∀ ty, (Instr.next (.pointer (some ⟨w1.heap.size, 0, none⟩)) true ty).run Tryz.prog wr = _ := fun ty => Lib.run_next_any_at wr w1.heap.size (bs s) pos ty HQ.out.it hp'
      rw [dec_drop] at hnx
      have hne : s.drop pos ≠ [] := by intro e; have := congrArg List.length e; rw [List.length_drop, List.length_nil] at this; omega
      have hst := HVL.out
      rw [Lib.validD_step _ hne] at hst
      have hg : ¬ ((Lib.decodeL (s.drop pos)).1 = 65533 ∧ (Lib.decodeL (s.drop pos)).2 = 1) := fun h => by rw [if_pos h] at hst; cases hst
      rcases valid_head _ hne hg with ⟨c, r, he, hc⟩ | ⟨u, r, t, he, m⟩
      · rw [he, Lib.decodeL_ascii c r hc] at hnx
        simp only at hnx
        by_cases h32 : c.toNat < 32
        · have hs4 : (0 : Int) ≤ (c.toNat : Int) := by omega
          have hd0 : (0 : Int) ≤ (c.toNat : Int) / 16 := by omega
          have hd1 : (c.toNat : Int) / 16 < 16 := by omega
          have hand : bits BinOp.and IntKind.i32 (c.toNat : Int) 15 = (c.toNat : Int) % 16 := and15 _ h32
          have hm0 : (0 : Int) ≤ (c.toNat : Int) % 16 := by omega
          have hm1 : (c.toNat : Int) % 16 < 16 := by omega
          go_wp2
          go_still_tail 6, (by kernel_rfl)
          change wpList _ _ _ _ _ (World.drew _)
          have HQ2 : Hid (QS w (wr.iterAt w1.heap.size (bs s) (pos + 1)).drew w1.heap.size s (pos + 1) (34 :: qs (s.take pos))) := by
            have h := HQ.out.iterAt (pos + 1)
            exact ⟨h.bl, h.it, h.fr.trans ((Fr.refl none' _).drew), h.k⟩
          obtain ⟨w2, hw2⟩ : ∃ w2, (wr.iterAt w1.heap.size (bs s) (pos + 1)).drew = w2 := ⟨_, rfl⟩
          rw [hw2] at HQ2 ⊢
          obtain ⟨H1, hH1⟩ : ∃ H1, hexC (c.toNat / 16) = H1 := ⟨_, rfl⟩
          obtain ⟨H2, hH2⟩ : ∃ H2, hexC (c.toNat % 16) = H2 := ⟨_, rfl⟩
          have hx1 : ∀ h, (⟨#[48, 49, 50, 51, 52, 53, 54, 55, 56, 57, 97, 98, 99, 100, 101, 102]⟩ : ByteArray)[c.toNat / 16]'h = H1 := fun h => by rw [hexA_get _ (by omega) h, hH1]
          have hx2 : ∀ h, (⟨#[48, 49, 50, 51, 52, 53, 54, 55, 56, 57, 97, 98, 99, 100, 101, 102]⟩ : ByteArray)[c.toNat % 16]'h = H2 := fun h => by rw [hexA_get _ (by omega) h, hH2]
          have hcv : (convert 88 9 (.slice (some ⟨w2.heap.size, 0, none⟩) 2 2)).run Tryz.prog (w2.alloc (.cells #[.int .u8 H1.toNat, .int .u8 H2.toNat] 5)) = .ok (.string ⟨#[H1, H2]⟩) (w2.alloc (.cells #[.int .u8 H1.toNat, .int .u8 H2.toNat] 5)) :=
            run_convert_bytes_back _ 88 9 5 ⟨w2.heap.size, 0, none⟩ 2 [H1, H2] Tryz.underlying88 Tryz.underlying5 Tryz.underlying9 (by
              intro j hj
              have hc2 := cell_of (alloc_new w2 (.cells #[.int .u8 H1.toNat, .int .u8 H2.toNat] 5))
              match j, hj with
              | 0, _ => exact hc2 0
              | 1, _ => exact hc2 1)
          have HH1 := Lib.hid hH1
          have HH2 := Lib.hid hH2
          clear hH1 hH2 hw2
          have HB3 := Lib.hid (HQ2.out.bl.fr (m := none') ((Fr.refl none' w2).alloc (.cells #[.int .u8 H1.toNat, .int .u8 H2.toNat] 5)) id (fun _ _ _ => id))
          have HS3 := Lib.hid (show w.heap.size + 1 ≤ (w2.alloc (.cells #[.int .u8 H1.toNat, .int .u8 H2.toNat] 5)).heap.size by have := HQ2.out.bl.lt; simp; omega)
          go_wp2_with fail
          rw [show (⟨#[92, 117, 48, 48]⟩ : ByteArray) ++ ⟨#[H1, H2]⟩ = bs [92, 117, 48, 48, H1, H2] from bs_append [92, 117, 48, 48] [H1, H2]]
          refine (writeString_i (w.heap.size + 1) w.heap.size _ [92, 117, 48, 48, H1, H2] _ HB3.out (by simp at hql ⊢; omega) HS3.out).mono ?_
          rintro e w3 ⟨rfl, hw3, hi3⟩
          have HQ3 : Hid (QS w w3 w1.heap.size s (pos + 1) (34 :: qs (s.take pos) ++ [92, 117, 48, 48, H1, H2])) :=
            ⟨hw3.1, hi3 _ _ _ (((Fr.refl none' w2).alloc (.cells #[.int .u8 H1.toNat, .int .u8 H2.toNat] 5)).get HQ2.out.it id), (HQ2.out.fr.trans ((Fr.refl none' _).alloc _)).call hw3.2 (fun i hi => .inr (by omega)), HQ2.out.k⟩
          clear hw3 hi3
          go_wp2
          go_roundw
          case rel =>
            obtain ⟨e1, e2, e3⟩ := take_step (u := [c]) he hpos
            refine ⟨pos + 1, ?_, e3, ?_⟩
            · have h := HQ3.out
              rw [show pos + 1 = pos + [c].length from rfl, e1, qs_append, show qs [c] = qb c from by simp [qs]]
              unfold qb
              rw [if_pos h32, HH1.out, HH2.out]
              exact h
            · rw [show pos + 1 = pos + [c].length from rfl, e2]
              have := HVL.out
              rw [he, Lib.validD_cons c r hc] at this
              exact this
          case measure => rw [HPOS.out, HQ3.out.pos]; omega
        · have h32' : ¬ (c.toNat : Int) < 32 := by omega
          by_cases hq : c = 34 ∨ c = 92
          · rcases hq with h | h
            · subst h
              have henc : Utf8.encode 34 = ⟨#[34]⟩ := rfl
              have hnum : ((34 : UInt8).toNat : Int) = 34 := rfl
              rw [hnum] at hnx
              have HQ2 := Lib.hid (HQ.out.iterAt (pos + 1))
              have HS2 := Lib.hid (show w.heap.size + 1 ≤ (wr.iterAt w1.heap.size (bs s) (pos + 1)).heap.size by have := HQ2.out.bl.lt; omega)
              clear h32 h32' hnum
              go_wp2_with fail
              rw [show (⟨#[92]⟩ : ByteArray) ++ ⟨#[34]⟩ = bs [92, 34] from bs_append [92] [34]]
              refine (writeString_i (w.heap.size + 1) w.heap.size _ [92, 34] _ HQ2.out.bl (by simp at hql ⊢; omega) HS2.out).mono ?_
              rintro e w3 ⟨rfl, hw3, hi3⟩
              have HQ3 := Lib.hid (HQ2.out.wrote hw3 hi3)
              clear hw3 hi3 henc
              go_wp2
              go_roundw
              case rel =>
                obtain ⟨e1, e2, e3⟩ := take_step (u := [34]) he hpos
                refine ⟨pos + 1, ?_, e3, ?_⟩
                · have h := HQ3.out
                  rw [show pos + 1 = pos + [(34 : UInt8)].length from rfl, e1, qs_append, show qs [34] = [92, 34] from by simp [qs, qb]]
                  exact h
                · rw [show pos + 1 = pos + [(34 : UInt8)].length from rfl, e2]
                  have := HVL.out
                  rw [he, Lib.validD_cons 34 r hc] at this
                  exact this
              case measure => rw [HPOS.out, HQ3.out.pos]; omega
            · subst h
              have henc : Utf8.encode 92 = ⟨#[92]⟩ := rfl
              have hnum : ((92 : UInt8).toNat : Int) = 92 := rfl
              rw [hnum] at hnx
              have HQ2 := Lib.hid (HQ.out.iterAt (pos + 1))
              have HS2 := Lib.hid (show w.heap.size + 1 ≤ (wr.iterAt w1.heap.size (bs s) (pos + 1)).heap.size by have := HQ2.out.bl.lt; omega)
              clear h32 h32' hnum
              go_wp2_with fail
              rw [show (⟨#[92]⟩ : ByteArray) ++ ⟨#[92]⟩ = bs [92, 92] from bs_append [92] [92]]
              refine (writeString_i (w.heap.size + 1) w.heap.size _ [92, 92] _ HQ2.out.bl (by simp at hql ⊢; omega) HS2.out).mono ?_
              rintro e w3 ⟨rfl, hw3, hi3⟩
              have HQ3 := Lib.hid (HQ2.out.wrote hw3 hi3)
              clear hw3 hi3 henc
              go_wp2
              go_roundw
              case rel =>
                obtain ⟨e1, e2, e3⟩ := take_step (u := [92]) he hpos
                refine ⟨pos + 1, ?_, e3, ?_⟩
                · have h := HQ3.out
                  rw [show pos + 1 = pos + [(92 : UInt8)].length from rfl, e1, qs_append, show qs [92] = [92, 92] from by simp [qs, qb]]
                  exact h
                · rw [show pos + 1 = pos + [(92 : UInt8)].length from rfl, e2]
                  have := HVL.out
                  rw [he, Lib.validD_cons 92 r hc] at this
                  exact this
              case measure => rw [HPOS.out, HQ3.out.pos]; omega
          · have q34 : ((c.toNat : Int) == 34) = false := by
              have : ¬ c.toNat = 34 := fun e => hq (.inl (UInt8.toNat_inj.1 e))
              simp; omega
            have q92 : ((c.toNat : Int) == 92) = false := by
              have : ¬ c.toNat = 92 := fun e => hq (.inr (UInt8.toNat_inj.1 e))
              simp; omega
            have HQ2 := Lib.hid (HQ.out.iterAt (pos + 1))
            have HS2 := Lib.hid (show w.heap.size + 1 ≤ (wr.iterAt w1.heap.size (bs s) (pos + 1)).heap.size by have := HQ2.out.bl.lt; omega)
            go_wp2_with fail
            refine (writeRune_i (w.heap.size + 1) w.heap.size _ (c.toNat : Int) (by omega) (by omega) _ HQ2.out.bl (by simp at hql ⊢; omega) HS2.out).mono ?_
            rintro e w3 ⟨⟨nn, rfl⟩, hw3, hi3⟩
            have HQ3 := Lib.hid (HQ2.out.wrote hw3 hi3)
            clear hw3 hi3
            go_wp2
            go_roundw
            case rel =>
              obtain ⟨e1, e2, e3⟩ := take_step (u := [c]) he hpos
              refine ⟨pos + 1, ?_, e3, ?_⟩
              · have h := HQ3.out
                rw [rune_ascii c hc] at h
                rw [show pos + 1 = pos + [c].length from rfl, e1, qs_append, show qs [c] = qb c from by simp [qs]]
                unfold qb
                rw [if_neg (by omega), if_neg hq]
                exact h
              · rw [show pos + 1 = pos + [c].length from rfl, e2]
                have := HVL.out
                rw [he, Lib.validD_cons c r hc] at this
                exact this
            case measure => rw [HPOS.out, HQ3.out.pos]; omega
      · have hmd := m.dec t
        have hbig := m.big
        have hle : r ≤ 1114111 := by have := Lib.decodeL_rune (u ++ t); rw [hmd] at this; exact this
        have h2 := m.two
        rw [he, hmd] at hnx
        simp only at hnx
        have q32 : ¬ (r : Int) < 32 := by omega
        have q34 : ((r : Int) == 34) = false := by simp; omega
        have q92 : ((r : Int) == 92) = false := by simp; omega
        have HQ2 := Lib.hid (HQ.out.iterAt (pos + u.length))
        have HS2 := Lib.hid (show w.heap.size + 1 ≤ (wr.iterAt w1.heap.size (bs s) (pos + u.length)).heap.size by have := HQ2.out.bl.lt; omega)
        go_wp2_with fail
        refine (writeRune_i (w.heap.size + 1) w.heap.size _ (r : Int) (by omega) (by omega) _ HQ2.out.bl (by simp at hql ⊢; omega) HS2.out).mono ?_
        rintro e w3 ⟨⟨nn, rfl⟩, hw3, hi3⟩
        have HQ3 := Lib.hid (HQ2.out.wrote hw3 hi3)
        clear hw3 hi3
        go_wp2
        go_roundw
        case rel =>
          obtain ⟨e1, e2, e3⟩ := take_step (u := u) he hpos
          refine ⟨pos + u.length, ?_, e3, ?_⟩
          · have h := HQ3.out
            rw [multi_enc m] at h
            rw [e1, qs_append, qs_hi u m.hi]
            exact h
          · rw [e2]
            have := HVL.out
            rw [he, m.valid] at this
            exact this
        case measure => rw [HPOS.out, HQ3.out.pos]; omega
    · have e : pos = s.length := by omega
      have hp' : ¬ pos < (bs s).size := by rw [bs_size]; exact hp
      have hnx : ∀ ty, (Instr.next (.pointer (some ⟨w1.heap.size, 0, none⟩)) true ty).run Tryz.prog wr = _ := fun ty => Lib.run_next_end_at wr w1.heap.size (bs s) pos ty HQ.out.it hp'
      have HS2 := Lib.hid (show w.heap.size + 1 ≤ wr.heap.size by have := HQ.out.bl.lt; omega)
      go_wp2_with fail
      refine (writeByte_i (w.heap.size + 1) w.heap.size _ 34 _ HQ.out.bl (by omega) HS2.out).mono ?_
      rintro e w3 ⟨rfl, hw3, hi3⟩
      have HW3 := Lib.hid hw3
      have HF3 := Lib.hid (HQ.out.fr.call hw3.2 (fun i hi => .inr (by omega)))
      clear hw3 hi3
      go_wp2_with fail
      refine (string_c (w.heap.size + 1) w.heap.size _ _ HW3.out.1).mono ?_
      rintro e w4 ⟨rfl, f4⟩
      go_wp2
      go_ret
      exact ⟨rfl, HF3.out.call f4 (fun i hi => .inr hi)⟩
end Go.Proofs.YtakgcaehkphepaaGreatDoor
