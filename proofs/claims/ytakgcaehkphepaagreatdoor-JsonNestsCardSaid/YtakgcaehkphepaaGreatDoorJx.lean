/- (*json.reader).key. -/
import Derived.Test.YtakgcaehkphepaaGreatDoorJw
import Derived.Maps.AppendAt
namespace Go.Proofs.YtakgcaehkphepaaGreatDoor
open Go.RowKit
set_option linter.unusedVariables false
set_option linter.unusedSimpArgs false

/-- A row's cells: strings. -/
def strC (ks : List Bs) : List Value := ks.map fun k => .string (bs k)
theorem strC_length (ks : List Bs) : (strC ks).length = ks.length := by simp [strC]

theorem bs_inj' {a b : Bs} : bs a = bs b ↔ a = b := ⟨bs_inj, fun h => h ▸ rfl⟩

theorem contains_c (B : Nat) (v : Value) (ks : List Bs) (t : Bs) (w : World) (h : w.ownsRow B 9 1 v ks.length (strC ks)) (hbig : ks.length ≤ 9223372036854775807) :
    Calls Tryz.prog 93 #[v, .string (bs t)] w fun e w' => e = .returned (.bool (decide (t ∈ ks))) ∧ w' = w := by
  obtain ⟨hl, hv⟩ := h
  rcases hv with ⟨rfl, h0⟩ | ⟨g, cap, cur, rfl, hg, hh, hn, hcap, hsz, htk⟩
  · have : ks = [] := List.length_eq_zero_iff.1 h0
    subst this
    exact (Tryz.slices_Contains_string_empty none 0 (bs t) w).mono fun e w' h => h
  · refine (Tryz.slices_Contains_string g 0 ks.length cap (ks.map bs) (bs t) w (by simp) hbig ?_).mono ?_
    · intro j hj
      rw [List.length_map] at hj
      rw [cell_of hh]
      have h1 : cur[0 + j]? = cur.toList[j]? := by simp
      have h2 : (cur.toList.take (ks.length * 1))[j]? = cur.toList[j]? := by rw [List.getElem?_take_of_lt (by omega)]
      rw [h1, ← h2, htk]
      simp [strC, List.getD_eq_getElem?_getD, hj]
    · rintro e w' ⟨rfl, rfl⟩
      refine ⟨?_, rfl⟩
      have : (ks.map bs).take ks.length = ks.map bs := List.take_of_length_le (by simp)
      rw [this]
      congr 2
      have h1 := Lib.containsS_iff (ks.map bs) (bs t)
      have h2 : bs t ∈ ks.map bs ↔ t ∈ ks := by
        rw [List.mem_map]
        exact ⟨fun ⟨a, ha, e⟩ => bs_inj e ▸ ha, fun h => ⟨t, h, rfl⟩⟩
      rw [h2] at h1
      cases hc : Lib.containsS (ks.map bs) (bs t) with
      | true => rw [decide_eq_true (h1.1 hc)]
      | false => rw [decide_eq_false (fun h => by rw [h1.2 h] at hc; cases hc)]

/-- A key and its colon: the keys, what is left, what is wrong. -/
def keyM (s : Bs) (o : Option Int) (ks : List Bs) : List Bs × Bs × Option Int :=
  if [34].isPrefixOf s then
    if [58].isPrefixOf (skipB (wordM (s.drop 1) o).2.1) then
      (ks ++ [(wordM (s.drop 1) o).1], skipB ((skipB (wordM (s.drop 1) o).2.1).drop 1), if (wordM (s.drop 1) o).1 ∈ ks then failE (wordM (s.drop 1) o).2.2 150 else (wordM (s.drop 1) o).2.2)
    else (ks ++ [(wordM (s.drop 1) o).1], skipB (skipB (wordM (s.drop 1) o).2.1), failE (if (wordM (s.drop 1) o).1 ∈ ks then failE (wordM (s.drop 1) o).2.2 150 else (wordM (s.drop 1) o).2.2) 150)
  else (ks, s, failE o 150)

theorem Jx.infoStr : (Tryz.prog.info? 9).map (fun i => (i.zero, i.size, i.bytes)) = some (some (.string ⟨#[]⟩), 1, 16) := by kernel_rfl
theorem fr_or {m m' : Nat → Prop} {a b : World} (h : Fr m a b) (hm : ∀ i, m i → m' i) : Fr m' a b := h.mono hm

set_option maxHeartbeats 4000000 in
set_option maxRecDepth 100000 in
theorem key_c (p : Value) (r b B : Nat) (s : Bs) (d : Int) (o : Option Int) (w : World) (h : RS p w r s d o) (hN : s.length ≤ 1073741824)
    (a0 a1 a2 a3 a5 kv : Value) (ks : List Bs) (hb : B26 w b a0 a1 a2 a3 kv a5) (hk : w.ownsRow B 9 1 kv ks.length (strC ks)) (hrb : r < b) (hbB : b < B) (hBw : B ≤ w.heap.size) (hks : ks.length ≤ 1073741824) :
    Calls Tryz.prog 99 #[.pointer (some ⟨r, 0, none⟩), .pointer (some ⟨b, 0, none⟩)] w fun e w' => e = .returned (.tuple #[]) ∧
      ∃ kv', B26 w' b a0 a1 a2 a3 kv' a5 ∧ w'.ownsRow B 9 1 kv' (keyM s o ks).1.length (strC (keyM s o ks).1) ∧ RS p w' r (keyM s o ks).2.1 d (keyM s o ks).2.2 ∧
        Fr (fun k => k = r ∨ k = b ∨ kv.ownBlock = some k) w w' ∧ (∀ k, kv'.ownBlock = some k → kv.ownBlock = some k ∨ w.heap.size ≤ k) := by
  obtain ⟨i0, hi, hz0, hz1, hz2⟩ := info_parts Jx.infoStr
  have H := Lib.hid h
  have HB := Lib.hid hb
  have HK := Lib.hid hk
  have hrk : ∀ k, kv.ownBlock = some k → k ≠ r := fun k e => by have := (ownsRow_ge hk e).1; omega
  have hbk : ∀ k, kv.ownBlock = some k → k ≠ b := fun k e => by have := (ownsRow_ge hk e).1; omega
  obtain ⟨RES, hRES⟩ : ∃ RES, keyM s o ks = RES := ⟨_, rfl⟩
  rw [hRES]
  have HRES := Lib.hid hRES
  clear h hb hk hRES
  go_enter Tryz.func99, Tryz.ntmps99
  go_wp2_with fail
  refine (take_r p r s [34] d o _ H.out).mono ?_
  rintro e w1 ⟨rfl, r1, f1⟩
  cases hq : List.isPrefixOf [34] s with
  | false =>
    rw [cutPre_no hq] at r1
    have R1 := Lib.hid r1
    have F1 := Lib.hid f1
    have hr := HRES.out
    unfold keyM at hr
    rw [if_neg (by rw [hq]; simp)] at hr
    have HR := Lib.hid hr
    clear r1 f1 hq hr
    go_wp2_with fail
    refine (fail_r p r s d 150 o _ R1.out).mono ?_
    rintro e w2 ⟨rfl, r2, f2⟩
    go_wp2
    go_returns
    rw [← HR.out]
    exact ⟨rfl, kv, (HB.out.fr F1.out (by omega)).fr f2 (by omega), ownsRow_fr (ownsRow_fr HK.out F1.out hrk) f2 hrk, r2, (F1.out.trans f2).mono (fun i e => .inl e), fun k e => .inl e⟩
  | true =>
    rw [cutPre_yes hq] at r1
    have R1 := Lib.hid r1
    have B1 := Lib.hid (HB.out.fr f1 (by omega))
    have K1 := Lib.hid (ownsRow_fr HK.out f1 hrk)
    have F1 := Lib.hid f1
    have hr := HRES.out
    unfold keyM at hr
    rw [if_pos hq] at hr
    have HR := Lib.hid hr
    clear r1 f1 hq hr HB HK H
    go_wp2_with fail
    refine (word_c p r (s.drop 1) d o _ R1.out (by rw [List.length_drop]; omega)).mono ?_
    rintro e w2 ⟨rfl, r2, f2⟩
    obtain ⟨WD, hWD⟩ : ∃ WD, wordM (s.drop 1) o = WD := ⟨_, rfl⟩
    have hr := HR.out
    rw [hWD] at hr r2 ⊢
    have R2 := Lib.hid r2
    have B2 := Lib.hid (B1.out.fr f2 (by omega))
    have K2 := Lib.hid (ownsRow_fr K1.out f2 hrk)
    have F2 := Lib.hid (F1.out.trans f2)
    have HR2 := Lib.hid hr
    have c4 := B2.out.c4
    clear r2 f2 hr hWD
    go_wp2_with fail
    refine (contains_c B kv ks WD.1 _ K2.out (by omega)).mono ?_
    rintro e w3 ⟨rfl, rfl⟩
    by_cases hm : WD.1 ∈ ks
    · have hr := HR2.out
      rw [if_pos hm] at hr
      rw [decide_eq_true hm]
      have HR3 := Lib.hid hr
      clear hr hm
      go_wp2_with fail
      refine (fail_r p r WD.2.1 d 150 WD.2.2 _ R2.out).mono ?_
      rintro e w4 ⟨rfl, r4, f4⟩
      have R4 := Lib.hid r4
      have B4 := Lib.hid (B2.out.fr f4 (by omega))
      have K4 := Lib.hid (ownsRow_fr K2.out f4 hrk)
      have F4 := Lib.hid (F2.out.trans f4)
      clear r4 f4 c4
      have c4 := B4.out.c4
      have z4 := B4.out.fz 4
      go_wp2_with (at_builtin; refine wpList_append_own_at _ rfl _ _ 23 rfl B 9 i0 (.string ⟨#[]⟩) 1 16 Tryz.underlying23 hi hz0 hz1 hz2 rfl (by decide) _ _ _ rfl (K4.out.alloc _) ⟨w4.heap.size, 0, none⟩ 1 1 [.string (bs WD.1)] rfl rfl ?c1 ?c2 ?c3 ?c4 ?c5 ?_)
      case c1 => exact cell_one_new _ _ _
      case c2 => intro u hu; simp at hu; subst hu; rfl
      case c3 => unfold maxLen; omega
      case c4 => omega
      case c5 => exact Nat.le_trans hBw (Nat.le_trans F4.out.size ((Fr.refl none' _).alloc _).size)
      intro kv' w5 hown' hgrow _ hat
      obtain ⟨ao, cap, rfl⟩ := own_form hown'
      have f5 : Fr (fun k => some k = kv.ownBlock) w4 w5 := ((Fr.refl _ _).alloc _).trans (Fr.of_grown hgrow)
      have R5 := Lib.hid (show RS p w5 r WD.2.1 d (failE WD.2.2 150) from ⟨R4.out.gl.fr f5 (fun k hk e => by have := R4.out.lo; have := (ownsRow_ge K4.out e.symm).1; omega), R4.out.rd.fr f5 (fun e => hrk r e.symm rfl), R4.out.lo⟩)
      have B5 := Lib.hid (B4.out.fr f5 (fun e => hbk b e.symm rfl))
      have K5 := Lib.hid (show w5.ownsRow B 9 1 (Value.slice ao (ks.length + 1) cap) (ks ++ [WD.1]).length (strC (ks ++ [WD.1])) from by rw [List.length_append]; simpa [strC] using hown')
      have F5 := Lib.hid ((F4.out.mono (m' := fun k => k = r ∨ k = b ∨ kv.ownBlock = some k) (fun i e => .inl e)).trans (f5.mono (fun i e => .inr (.inr e.symm))))
      have A5 := Lib.hid (show ∀ k, (Value.slice ao (ks.length + 1) cap).ownBlock = some k → kv.ownBlock = some k ∨ w.heap.size ≤ k from fun k e => by
        have := F4.out.size
        rcases hat with h | h
        · rw [h] at e; exact .inl e
        · rw [h] at e; injection e with e; subst e; right; omega)
      clear hown' hgrow hat f5
      have c4 := B5.out.c4
      have z4 := B5.out.fz 4
      go_wp2_with fail
      have hbs : (Value.slice ao (ks.length + 1) cap).ownBlock ≠ some b := fun e => by have := (ownsRow_ge K5.out e).1; omega
      have hrs : r ≠ b := by omega
      have fs := Fr.set' (m := (· = b)) (w := w5) b 4 (Value.slice ao (ks.length + 1) cap) rfl
      have R6 := Lib.hid (show RS p (w5.setCell ⟨b, 4, none⟩ (Value.slice ao (ks.length + 1) cap)) r WD.2.1 d (failE WD.2.2 150) from ⟨R5.out.gl.fr fs (fun k hk e => by have := R5.out.lo; omega), R5.out.rd.fr fs hrs, R5.out.lo⟩)
      have B6 := Lib.hid (B5.out.put4 (Value.slice ao (ks.length + 1) cap))
      have K6 := Lib.hid (ownsRow_fr K5.out fs (fun k hk e => hbs (e ▸ hk)))
      have F6 := Lib.hid (F5.out.trans (fs.mono (m' := fun k => k = r ∨ k = b ∨ kv.ownBlock = some k) (fun i e => .inr (.inl e))))
      have hrk' : ∀ k, (Value.slice ao (ks.length + 1) cap).ownBlock = some k → k ≠ r := fun k e => by have := (ownsRow_ge K5.out e).1; omega
      obtain ⟨w6, hw6⟩ : ∃ w6, w5.setCell ⟨b, 4, none⟩ (Value.slice ao (ks.length + 1) cap) = w6 := ⟨_, rfl⟩
      rw [hw6] at R6 B6 K6 F6 ⊢
      clear hw6 fs R5 B5 K5 F5 c4 z4
      refine (skip_r p r WD.2.1 d (failE WD.2.2 150) _ R6.out).mono ?_
      rintro e w7 ⟨rfl, r7, f7⟩
      have R7 := Lib.hid r7
      have B7 := Lib.hid (B6.out.fr f7 (by omega))
      have K7 := Lib.hid (ownsRow_fr K6.out f7 hrk')
      have F7 := Lib.hid (F6.out.trans (f7.mono (m' := fun k => k = r ∨ k = b ∨ kv.ownBlock = some k) (fun i e => .inl e)))
      clear r7 f7 R6 B6 K6 F6
      go_wp2_with fail
      refine (take_r p r (skipB WD.2.1) [58] d (failE WD.2.2 150) _ R7.out).mono ?_
      rintro e w8 ⟨rfl, r8, f8⟩
      have B8 := Lib.hid (B7.out.fr f8 (by omega))
      have K8 := Lib.hid (ownsRow_fr K7.out f8 hrk')
      have F8 := Lib.hid (F7.out.trans (f8.mono (m' := fun k => k = r ∨ k = b ∨ kv.ownBlock = some k) (fun i e => .inl e)))
      cases hq : List.isPrefixOf [58] (skipB WD.2.1) with
      | true =>
        rw [cutPre_yes hq] at r8
        have hr := HR3.out
        rw [if_pos hq] at hr
        have HR9 := Lib.hid hr
        have R8 := Lib.hid r8
        clear r8 f8 hr hq B7 K7 F7
        go_wp2_with fail
        refine (skip_r p r ((skipB WD.2.1).drop 1) d (failE WD.2.2 150) _ R8.out).mono ?_
        rintro e w9 ⟨rfl, r9, f9⟩
        go_wp2
        go_end0
        rw [← HR9.out]
        exact ⟨rfl, _, B8.out.fr f9 (by omega), ownsRow_fr K8.out f9 hrk', r9, F8.out.trans (f9.mono (fun i e => .inl e)), A5.out⟩
      | false =>
        rw [cutPre_no hq] at r8
        have hr := HR3.out
        rw [if_neg (by rw [hq]; simp)] at hr
        have HR9 := Lib.hid hr
        have R8 := Lib.hid r8
        clear r8 f8 hr hq B7 K7 F7
        go_wp2_with fail
        refine (fail_r p r (skipB WD.2.1) d 150 (failE WD.2.2 150) _ R8.out).mono ?_
        rintro e w9 ⟨rfl, r9, f9⟩
        have R9 := Lib.hid r9
        have B9 := Lib.hid (B8.out.fr f9 (by omega))
        have K9 := Lib.hid (ownsRow_fr K8.out f9 hrk')
        have F9 := Lib.hid (F8.out.trans (f9.mono (m' := fun k => k = r ∨ k = b ∨ kv.ownBlock = some k) (fun i e => .inl e)))
        clear r9 f9 B8 K8 F8
        go_wp2_with fail
        refine (skip_r p r (skipB WD.2.1) d _ _ R9.out).mono ?_
        rintro e w10 ⟨rfl, r10, f10⟩
        go_wp2
        go_end0
        rw [← HR9.out]
        exact ⟨rfl, _, B9.out.fr f10 (by omega), ownsRow_fr K9.out f10 hrk', r10, F9.out.trans (f10.mono (fun i e => .inl e)), A5.out⟩
    · have hr := HR2.out
      rw [if_neg hm] at hr
      rw [decide_eq_false hm]
      have HR3 := Lib.hid hr
      clear hr hm
      have c4 := B2.out.c4
      have z4 := B2.out.fz 4
      go_wp2_with (at_builtin; refine wpList_append_own_at _ rfl _ _ 23 rfl B 9 i0 (.string ⟨#[]⟩) 1 16 Tryz.underlying23 hi hz0 hz1 hz2 rfl (by decide) _ _ _ rfl (K2.out.alloc _) ⟨w3.heap.size, 0, none⟩ 1 1 [.string (bs WD.1)] rfl rfl ?c1 ?c2 ?c3 ?c4 ?c5 ?_)
      case c1 => exact cell_one_new _ _ _
      case c2 => intro u hu; simp at hu; subst hu; rfl
      case c3 => unfold maxLen; omega
      case c4 => omega
      case c5 => exact Nat.le_trans hBw (Nat.le_trans F2.out.size ((Fr.refl none' _).alloc _).size)
      intro kv' w5 hown' hgrow _ hat
      obtain ⟨ao, cap, rfl⟩ := own_form hown'
      have f5 : Fr (fun k => some k = kv.ownBlock) w3 w5 := ((Fr.refl _ _).alloc _).trans (Fr.of_grown hgrow)
      have R5 := Lib.hid (show RS p w5 r WD.2.1 d WD.2.2 from ⟨R2.out.gl.fr f5 (fun k hk e => by have := R2.out.lo; have := (ownsRow_ge K2.out e.symm).1; omega), R2.out.rd.fr f5 (fun e => hrk r e.symm rfl), R2.out.lo⟩)
      have B5 := Lib.hid (B2.out.fr f5 (fun e => hbk b e.symm rfl))
      have K5 := Lib.hid (show w5.ownsRow B 9 1 (Value.slice ao (ks.length + 1) cap) (ks ++ [WD.1]).length (strC (ks ++ [WD.1])) from by rw [List.length_append]; simpa [strC] using hown')
      have F5 := Lib.hid ((F2.out.mono (m' := fun k => k = r ∨ k = b ∨ kv.ownBlock = some k) (fun i e => .inl e)).trans (f5.mono (fun i e => .inr (.inr e.symm))))
      have A5 := Lib.hid (show ∀ k, (Value.slice ao (ks.length + 1) cap).ownBlock = some k → kv.ownBlock = some k ∨ w.heap.size ≤ k from fun k e => by
        have := F2.out.size
        rcases hat with h | h
        · rw [h] at e; exact .inl e
        · rw [h] at e; injection e with e; subst e; right; omega)
      clear hown' hgrow hat f5
      have c4 := B5.out.c4
      have z4 := B5.out.fz 4
      go_wp2_with fail
      have hbs : (Value.slice ao (ks.length + 1) cap).ownBlock ≠ some b := fun e => by have := (ownsRow_ge K5.out e).1; omega
      have hrs : r ≠ b := by omega
      have fs := Fr.set' (m := (· = b)) (w := w5) b 4 (Value.slice ao (ks.length + 1) cap) rfl
      have R6 := Lib.hid (show RS p (w5.setCell ⟨b, 4, none⟩ (Value.slice ao (ks.length + 1) cap)) r WD.2.1 d WD.2.2 from ⟨R5.out.gl.fr fs (fun k hk e => by have := R5.out.lo; omega), R5.out.rd.fr fs hrs, R5.out.lo⟩)
      have B6 := Lib.hid (B5.out.put4 (Value.slice ao (ks.length + 1) cap))
      have K6 := Lib.hid (ownsRow_fr K5.out fs (fun k hk e => hbs (e ▸ hk)))
      have F6 := Lib.hid (F5.out.trans (fs.mono (m' := fun k => k = r ∨ k = b ∨ kv.ownBlock = some k) (fun i e => .inr (.inl e))))
      have hrk' : ∀ k, (Value.slice ao (ks.length + 1) cap).ownBlock = some k → k ≠ r := fun k e => by have := (ownsRow_ge K5.out e).1; omega
      obtain ⟨w6, hw6⟩ : ∃ w6, w5.setCell ⟨b, 4, none⟩ (Value.slice ao (ks.length + 1) cap) = w6 := ⟨_, rfl⟩
      rw [hw6] at R6 B6 K6 F6 ⊢
      clear hw6 fs R5 B5 K5 F5 c4 z4
      refine (skip_r p r WD.2.1 d WD.2.2 _ R6.out).mono ?_
      rintro e w7 ⟨rfl, r7, f7⟩
      have R7 := Lib.hid r7
      have B7 := Lib.hid (B6.out.fr f7 (by omega))
      have K7 := Lib.hid (ownsRow_fr K6.out f7 hrk')
      have F7 := Lib.hid (F6.out.trans (f7.mono (m' := fun k => k = r ∨ k = b ∨ kv.ownBlock = some k) (fun i e => .inl e)))
      clear r7 f7 R6 B6 K6 F6
      go_wp2_with fail
      refine (take_r p r (skipB WD.2.1) [58] d WD.2.2 _ R7.out).mono ?_
      rintro e w8 ⟨rfl, r8, f8⟩
      have B8 := Lib.hid (B7.out.fr f8 (by omega))
      have K8 := Lib.hid (ownsRow_fr K7.out f8 hrk')
      have F8 := Lib.hid (F7.out.trans (f8.mono (m' := fun k => k = r ∨ k = b ∨ kv.ownBlock = some k) (fun i e => .inl e)))
      cases hq : List.isPrefixOf [58] (skipB WD.2.1) with
      | true =>
        rw [cutPre_yes hq] at r8
        have hr := HR3.out
        rw [if_pos hq] at hr
        have HR9 := Lib.hid hr
        have R8 := Lib.hid r8
        clear r8 f8 hr hq B7 K7 F7
        go_wp2_with fail
        refine (skip_r p r ((skipB WD.2.1).drop 1) d WD.2.2 _ R8.out).mono ?_
        rintro e w9 ⟨rfl, r9, f9⟩
        go_wp2
        go_end0
        rw [← HR9.out]
        exact ⟨rfl, _, B8.out.fr f9 (by omega), ownsRow_fr K8.out f9 hrk', r9, F8.out.trans (f9.mono (fun i e => .inl e)), A5.out⟩
      | false =>
        rw [cutPre_no hq] at r8
        have hr := HR3.out
        rw [if_neg (by rw [hq]; simp)] at hr
        have HR9 := Lib.hid hr
        have R8 := Lib.hid r8
        clear r8 f8 hr hq B7 K7 F7
        go_wp2_with fail
        refine (fail_r p r (skipB WD.2.1) d 150 WD.2.2 _ R8.out).mono ?_
        rintro e w9 ⟨rfl, r9, f9⟩
        have R9 := Lib.hid r9
        have B9 := Lib.hid (B8.out.fr f9 (by omega))
        have K9 := Lib.hid (ownsRow_fr K8.out f9 hrk')
        have F9 := Lib.hid (F8.out.trans (f9.mono (m' := fun k => k = r ∨ k = b ∨ kv.ownBlock = some k) (fun i e => .inl e)))
        clear r9 f9 B8 K8 F8
        go_wp2_with fail
        refine (skip_r p r (skipB WD.2.1) d _ _ R9.out).mono ?_
        rintro e w10 ⟨rfl, r10, f10⟩
        go_wp2
        go_end0
        rw [← HR9.out]
        exact ⟨rfl, _, B9.out.fr f10 (by omega), ownsRow_fr K9.out f10 hrk', r10, F9.out.trans (f10.mono (fun i e => .inl e)), A5.out⟩
end Go.Proofs.YtakgcaehkphepaaGreatDoor
