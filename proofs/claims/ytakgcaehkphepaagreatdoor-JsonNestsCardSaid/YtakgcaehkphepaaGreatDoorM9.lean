/- diaeresislaw18.JsonTexts. -/
import Derived.Test.YtakgcaehkphepaaGreatDoorM8
namespace Go.Proofs.YtakgcaehkphepaaGreatDoor
open Go.RowKit
set_option linter.unusedVariables false
set_option linter.unusedSimpArgs false
set_option maxHeartbeats 4000000 in
set_option maxRecDepth 100000 in
theorem texts_c (p : Value) (s : Bs) (w : World) (g : Gl p w) (hN : s.length ≤ 9223372036854775807) :
    Calls Tryz.prog 8 #[.string (bs s)] w fun e w' => e = .returned (.bool true) ∧ Fr none' w w' := by
  have HS := Lib.hid hN
  clear hN
  have HG := Lib.hid g
  have HF := Lib.hid (Fr.refl none' w)
  clear g
  go_enter Tryz.func8, Tryz.ntmps8
  go_wp2_with fail
  refine (shown_c p _ HG.out).mono ?_
  rintro e w2 ⟨rfl, f1⟩
  replace HG := Lib.hid (HG.out.fr0 f1)
  replace HF := Lib.hid (HF.out.trans f1)
  clear f1
  go_wp2_with fail
  refine (short_c s _ HS.out).mono ?_
  rintro e w3 ⟨rfl, rfl⟩
  obtain ⟨t, ht⟩ : ∃ t, s.take 50 = t := ⟨_, rfl⟩
  have htl : t.length ≤ 50 := by rw [← ht, List.length_take]; omega
  rw [ht]
  clear ht
  go_wp2_with fail
  refine (quote_c p t _ HG.out (by omega)).mono ?_
  rintro e w5 ⟨rfl, f4⟩
  replace HG := Lib.hid (HG.out.fr0 f4)
  replace HF := Lib.hid (HF.out.trans f4)
  clear f4
  have hq := qs_len t
  obtain ⟨q, hqm⟩ : ∃ q, quoteM t = q := ⟨_, rfl⟩
  have hql : q.length ≤ 1000 := by rw [← hqm]; have := quote_le t; unfold quoteM; split; omega; simp
  obtain ⟨j, e, hp⟩ : ∃ j e, parseM q = (j, e) := ⟨_, _, rfl⟩
  have hw := parse_wt q
  rw [hp] at hw
  rw [hqm]
  have HW := Lib.hid (wt_jsz 1000000000 j (by simp only at hw; omega))
  have HQ := Lib.hid hqm
  have HP := Lib.hid hp
  clear hqm hp hw hq
  go_wp2_with fail
  refine (parse_c p q _ HG.out (by omega)).mono ?_
  rintro e w7 ⟨kv, lv, rfl, T, f6⟩
  rw [HP.out] at T ⊢
  obtain ⟨kA, kn, kc, lA, ln, lc, rfl, rfl⟩ := T.form
  replace HG := Lib.hid (HG.out.fr0 f6)
  replace HF := Lib.hid (HF.out.trans f6)
  clear f6
  have HT := Lib.hid (T.mono (ok' := fun k => k < w7.heap.size) (fun k _ h => h))
  clear T
  unfold jVal
  go_upto_region 5 with (fail)
  have A9 : Fr none' w7 (w7.alloc (.cells #[.int .i64 j.kind, .bool j.yes, .int .i64 j.n, .string (bs j.s), .slice kA kn kc, .slice lA ln lc] 26)) := (Fr.refl _ _).alloc _
  have Bb := Lib.hid (B26.new w7 (.int .i64 j.kind) (.bool j.yes) (.int .i64 j.n) (.string (bs j.s)) (.slice kA kn kc) (.slice lA ln lc))
  replace HG := Lib.hid (HG.out.fr0 A9)
  replace HF := Lib.hid (HF.out.trans A9)
  replace HT := Lib.hid (HT.out.fr A9 (fun _ _ => id))
  clear A9
  obtain ⟨w8, hw8⟩ : ∃ w8, w7.alloc (.cells #[.int .i64 j.kind, .bool j.yes, .int .i64 j.n, .string (bs j.s), .slice kA kn kc, .slice lA ln lc] 26) = w8 := ⟨_, rfl⟩
  rw [hw8] at HG HF HT Bb ⊢
  clear hw8
  obtain ⟨b, hb⟩ : ∃ b, w7.heap.size = b := ⟨_, rfl⟩
  rw [hb] at Bb ⊢
  clear hb
  have b0 := Bb.out.c0
  have b1 := Bb.out.c1
  have b2 := Bb.out.c2
  have b3 := Bb.out.c3
  have b4 := Bb.out.c4
  have b5 := Bb.out.c5
  cases hv : Lib.validD t with
  | false =>
    have hqq := HQ.out
    unfold quoteM at hqq
    rw [hv, if_neg (by decide)] at hqq
    subst hqq
    have hpp := HP.out
    rw [law_nest0] at hpp
    injection hpp with h1 h2
    subst h2
    have e0 : (bs ([] : Bs)).toList.isEmpty = true := by rw [bs_toList]; rfl
    clear hv h1
    go_wp2
    go_ret
    exact ⟨rfl, HF.out⟩
  | true =>
    have hqq := HQ.out
    unfold quoteM at hqq
    rw [hv, if_pos rfl] at hqq
    subst hqq
    have hpp := HP.out
    rw [law_texts t hv] at hpp
    injection hpp with h1 h2
    subst h2
    have HJ := Lib.hid h1
    clear hv h1
    go_wp2_with fail
    refine (same_c p j _ (fun _ => True) (.mk 3 false 0 t [] []) _ _ _ _ _ HG.out HT.out (JAt.nil _ _ _ _ _ _) HW.out (wt_jsz _ _ (by simp [wt, wtK, wtL]; omega))).mono ?_
    rintro e w11 ⟨rfl, f10⟩
    replace HG := Lib.hid (HG.out.fr0 f10)
    replace HF := Lib.hid (HF.out.trans f10)
    replace HT := Lib.hid (HT.out.fr f10 (fun _ _ => id))
    replace Bb := Lib.hid (Bb.out.fr f10 id)
    clear f10
    rw [show sameM j (.mk 3 false 0 t [] []) = true from (sameM_eq _ _).2 HJ.out.symm]
    go_wp2
    go_ret
    exact ⟨rfl, HF.out⟩
end Go.Proofs.YtakgcaehkphepaaGreatDoor

/- diaeresislaw18.JsonRights. -/
namespace Go.Proofs.YtakgcaehkphepaaGreatDoor
open Go.RowKit
set_option linter.unusedVariables false
set_option linter.unusedSimpArgs false
set_option maxHeartbeats 4000000 in
set_option maxRecDepth 100000 in
theorem rights_c (p : Value) (s : Bs) (w : World) (g : Gl p w) (hN : s.length ≤ 9223372036854775807) :
    Calls Tryz.prog 6 #[.string (bs s)] w fun e w' => e = .returned (.bool true) ∧ Fr none' w w' := by
  have HS := Lib.hid hN
  clear hN
  have HG := Lib.hid g
  have HF := Lib.hid (Fr.refl none' w)
  clear g
  go_enter Tryz.func6, Tryz.ntmps6
  go_wp2_with fail
  refine (shown_c p _ HG.out).mono ?_
  rintro e w2 ⟨rfl, f1⟩
  replace HG := Lib.hid (HG.out.fr0 f1)
  replace HF := Lib.hid (HF.out.trans f1)
  clear f1
  go_wp2_with fail
  refine (cut_c s _ HS.out).mono ?_
  rintro e w3 ⟨rfl, rfl⟩
  obtain ⟨t, ht⟩ : ∃ t, s.take 600 = t := ⟨_, rfl⟩
  have htl : t.length ≤ 600 := by rw [← ht, List.length_take]; omega
  rw [ht]
  have HTt := Lib.hid ht
  clear ht
  obtain ⟨j, e, hp⟩ : ∃ j e, parseM t = (j, e) := ⟨_, _, rfl⟩
  have hw := parse_wt t
  rw [hp] at hw
  have hw1 : wt j ≤ 40000 := by simp only at hw; omega
  have hnum : numOk j = true := hw.2
  have HW := Lib.hid (wt_jsz 1000000000 j (by omega))
  have HTX := Lib.hid (text_wt j hnum)
  have HNM := Lib.hid hnum
  have HP := Lib.hid hp
  clear hp hw hnum
  go_wp2_with fail
  refine (parse_c p t _ HG.out (by omega)).mono ?_
  rintro e w5 ⟨kv, lv, rfl, T, f4⟩
  rw [HP.out] at T ⊢
  obtain ⟨kA, kn, kc, lA, ln, lc, rfl, rfl⟩ := T.form
  replace HG := Lib.hid (HG.out.fr0 f4)
  replace HF := Lib.hid (HF.out.trans f4)
  clear f4
  have HT := Lib.hid (T.mono (ok' := fun k => k < w5.heap.size) (fun k _ h => h))
  clear T
  unfold jVal
  go_upto_region 3 with (fail)
  have A7 : Fr none' w5 (w5.alloc (.cells #[.int .i64 j.kind, .bool j.yes, .int .i64 j.n, .string (bs j.s), .slice kA kn kc, .slice lA ln lc] 26)) := (Fr.refl _ _).alloc _
  have Bb := Lib.hid (B26.new w5 (.int .i64 j.kind) (.bool j.yes) (.int .i64 j.n) (.string (bs j.s)) (.slice kA kn kc) (.slice lA ln lc))
  replace HG := Lib.hid (HG.out.fr0 A7)
  replace HF := Lib.hid (HF.out.trans A7)
  replace HT := Lib.hid (HT.out.fr A7 (fun _ _ => id))
  clear A7
  obtain ⟨w6, hw6⟩ : ∃ w6, w5.alloc (.cells #[.int .i64 j.kind, .bool j.yes, .int .i64 j.n, .string (bs j.s), .slice kA kn kc, .slice lA ln lc] 26) = w6 := ⟨_, rfl⟩
  rw [hw6] at HG HF HT Bb ⊢
  clear hw6
  obtain ⟨b, hb⟩ : ∃ b, w5.heap.size = b := ⟨_, rfl⟩
  rw [hb] at Bb ⊢
  clear hb
  have b0 := Bb.out.c0
  have b1 := Bb.out.c1
  have b2 := Bb.out.c2
  have b3 := Bb.out.c3
  have b4 := Bb.out.c4
  have b5 := Bb.out.c5
  by_cases he : e = 0
  case neg =>
    have hj := law_rights_no t j e HP.out he
    have hb : (e == 0) = false := by simpa using he
    have HJ := Lib.hid hj
    clear he hj
    go_wp2_with fail
    refine (same_c p j _ (fun _ => True) nullJ _ _ _ _ _ HG.out HT.out (JAt.nil _ _ _ _ _ _) HW.out (wt_jsz _ _ (by decide))).mono ?_
    rintro e w9 ⟨rfl, f8⟩
    replace HG := Lib.hid (HG.out.fr0 f8)
    replace HF := Lib.hid (HF.out.trans f8)
    replace HT := Lib.hid (HT.out.fr f8 (fun _ _ => id))
    replace Bb := Lib.hid (Bb.out.fr f8 id)
    clear f8
    rw [show sameM j nullJ = true from (sameM_eq _ _).2 HJ.out]
    go_wp2
    go_ret
    exact ⟨rfl, HF.out⟩
  case pos =>
    subst he
    obtain ⟨hr, hn, hpt, hpu⟩ := law_rights t j HP.out
    have HR := Lib.hid hr
    have HPT := Lib.hid hpt
    have HPU := Lib.hid hpu
    clear hr hn hpt hpu
    go_wp2_with fail
    refine (print_c p _ j _ _ _ HG.out HT.out HW.out HNM.out (by have := HTX.out; omega)).mono ?_
    rintro e w11 ⟨rfl, f10⟩
    rw [show printM j = (textM j, 0) from by unfold printM; rw [HR.out, if_pos rfl]]
    replace HG := Lib.hid (HG.out.fr0 f10)
    replace HF := Lib.hid (HF.out.trans f10)
    replace HT := Lib.hid (HT.out.fr f10 (fun _ _ => id))
    replace Bb := Lib.hid (Bb.out.fr f10 id)
    clear f10
    clear b0 b1 b2 b3 b4 b5
    obtain ⟨x, hx⟩ : ∃ x, textM j = x := ⟨_, rfl⟩
    have hxl : x.length ≤ 40000 := by rw [← hx]; have := HTX.out; omega
    rw [hx] at HPT
    rw [hx]
    clear hx
    go_wp2_with fail
    refine (parse_c p x _ HG.out (by omega)).mono ?_
    rintro e w13 ⟨kv, lv, rfl, T, f12⟩
    rw [HPT.out] at T ⊢
    obtain ⟨kA', kn', kc', lA', ln', lc', rfl, rfl⟩ := T.form
    replace HG := Lib.hid (HG.out.fr0 f12)
    replace HF := Lib.hid (HF.out.trans f12)
    replace HT := Lib.hid (HT.out.fr f12 (fun _ _ => id))
    replace Bb := Lib.hid (Bb.out.fr f12 id)
    clear f12
    have HT2 := Lib.hid (T.mono (ok' := fun k => k < w13.heap.size) (fun k _ h => h))
    clear T
    unfold jVal
    go_upto_region 7 with (fail)
    have A15 : Fr none' w13 (w13.alloc (.cells #[.int .i64 j.kind, .bool j.yes, .int .i64 j.n, .string (bs j.s), .slice kA' kn' kc', .slice lA' ln' lc'] 26)) := (Fr.refl _ _).alloc _
    have Bc := Lib.hid (B26.new w13 (.int .i64 j.kind) (.bool j.yes) (.int .i64 j.n) (.string (bs j.s)) (.slice kA' kn' kc') (.slice lA' ln' lc'))
    replace HG := Lib.hid (HG.out.fr0 A15)
    replace HF := Lib.hid (HF.out.trans A15)
    replace HT := Lib.hid (HT.out.fr A15 (fun _ _ => id))
    replace Bb := Lib.hid (Bb.out.fr A15 id)
    replace HT2 := Lib.hid (HT2.out.fr A15 (fun _ _ => id))
    clear A15
    obtain ⟨w14, hw14⟩ : ∃ w14, w13.alloc (.cells #[.int .i64 j.kind, .bool j.yes, .int .i64 j.n, .string (bs j.s), .slice kA' kn' kc', .slice lA' ln' lc'] 26) = w14 := ⟨_, rfl⟩
    rw [hw14] at HG HF HT Bb HT2 Bc ⊢
    clear hw14
    obtain ⟨c, hc⟩ : ∃ c, w13.heap.size = c := ⟨_, rfl⟩
    rw [hc] at Bc ⊢
    clear hc
    go_wp2_with fail
    refine (cut_c s _ HS.out).mono ?_
    rintro e w16 ⟨rfl, rfl⟩
    rw [HTt.out]
    have z1 : (bs t).size ≤ 600 := by rw [bs_size]; exact htl
    have z2 : (⟨#[32]⟩ : ByteArray) ++ bs t ++ ⟨#[10]⟩ = bs (32 :: (t ++ [10])) := by show bs [32] ++ bs t ++ bs [10] = _; rw [bs_append, bs_append]; rfl
    go_wp2_with fail
    clear z2
    refine (parse_c p (32 :: (t ++ [10])) _ HG.out (by simp; omega)).mono ?_
    rintro e w18 ⟨kv, lv, rfl, T, f17⟩
    rw [HPU.out] at T ⊢
    obtain ⟨kA'', kn'', kc'', lA'', ln'', lc'', rfl, rfl⟩ := T.form
    replace HG := Lib.hid (HG.out.fr0 f17)
    replace HF := Lib.hid (HF.out.trans f17)
    replace HT := Lib.hid (HT.out.fr f17 (fun _ _ => id))
    replace Bb := Lib.hid (Bb.out.fr f17 id)
    replace HT2 := Lib.hid (HT2.out.fr f17 (fun _ _ => id))
    replace Bc := Lib.hid (Bc.out.fr f17 id)
    clear f17
    have HT3 := Lib.hid (T.mono (ok' := fun k => k < w18.heap.size) (fun k _ h => h))
    clear T
    unfold jVal
    go_upto_region 8 with (fail)
    have A20 : Fr none' w18 (w18.alloc (.cells #[.int .i64 j.kind, .bool j.yes, .int .i64 j.n, .string (bs j.s), .slice kA'' kn'' kc'', .slice lA'' ln'' lc''] 26)) := (Fr.refl _ _).alloc _
    have Bd := Lib.hid (B26.new w18 (.int .i64 j.kind) (.bool j.yes) (.int .i64 j.n) (.string (bs j.s)) (.slice kA'' kn'' kc'') (.slice lA'' ln'' lc''))
    replace HG := Lib.hid (HG.out.fr0 A20)
    replace HF := Lib.hid (HF.out.trans A20)
    replace HT := Lib.hid (HT.out.fr A20 (fun _ _ => id))
    replace Bb := Lib.hid (Bb.out.fr A20 id)
    replace HT2 := Lib.hid (HT2.out.fr A20 (fun _ _ => id))
    replace Bc := Lib.hid (Bc.out.fr A20 id)
    replace HT3 := Lib.hid (HT3.out.fr A20 (fun _ _ => id))
    clear A20
    obtain ⟨w19, hw19⟩ : ∃ w19, w18.alloc (.cells #[.int .i64 j.kind, .bool j.yes, .int .i64 j.n, .string (bs j.s), .slice kA'' kn'' kc'', .slice lA'' ln'' lc''] 26) = w19 := ⟨_, rfl⟩
    rw [hw19] at HG HF HT Bb HT2 Bc HT3 Bd ⊢
    clear hw19
    obtain ⟨d, hd⟩ : ∃ d, w18.heap.size = d := ⟨_, rfl⟩
    rw [hd] at Bd ⊢
    clear hd
    have b0 := Bb.out.c0
    have b1 := Bb.out.c1
    have b2 := Bb.out.c2
    have b3 := Bb.out.c3
    have b4 := Bb.out.c4
    have b5 := Bb.out.c5
    have c0 := Bc.out.c0
    have c1 := Bc.out.c1
    have c2 := Bc.out.c2
    have c3 := Bc.out.c3
    have c4 := Bc.out.c4
    have c5 := Bc.out.c5
    have d0 := Bd.out.c0
    have d1 := Bd.out.c1
    have d2 := Bd.out.c2
    have d3 := Bd.out.c3
    have d4 := Bd.out.c4
    have d5 := Bd.out.c5
    go_wp2_with fail
    refine (right_c p _ j _ _ _ HG.out HT.out HW.out).mono ?_
    rintro e w22 ⟨rfl, f21⟩
    rw [HR.out]
    replace HG := Lib.hid (HG.out.fr0 f21)
    replace HF := Lib.hid (HF.out.trans f21)
    replace HT := Lib.hid (HT.out.fr f21 (fun _ _ => id))
    replace Bb := Lib.hid (Bb.out.fr f21 id)
    replace HT2 := Lib.hid (HT2.out.fr f21 (fun _ _ => id))
    replace Bc := Lib.hid (Bc.out.fr f21 id)
    replace HT3 := Lib.hid (HT3.out.fr f21 (fun _ _ => id))
    replace Bd := Lib.hid (Bd.out.fr f21 id)
    clear f21
    clear b0 b1 b2 b3 b4 b5
    clear c0 c1 c2 c3 c4 c5
    clear d0 d1 d2 d3 d4 d5
    have b0 := Bb.out.c0
    have b1 := Bb.out.c1
    have b2 := Bb.out.c2
    have b3 := Bb.out.c3
    have b4 := Bb.out.c4
    have b5 := Bb.out.c5
    have c0 := Bc.out.c0
    have c1 := Bc.out.c1
    have c2 := Bc.out.c2
    have c3 := Bc.out.c3
    have c4 := Bc.out.c4
    have c5 := Bc.out.c5
    have d0 := Bd.out.c0
    have d1 := Bd.out.c1
    have d2 := Bd.out.c2
    have d3 := Bd.out.c3
    have d4 := Bd.out.c4
    have d5 := Bd.out.c5
    go_wp2_with fail
    refine (same_c p j _ _ j _ _ _ _ _ HG.out HT.out HT2.out HW.out HW.out).mono ?_
    rintro e w24 ⟨rfl, f23⟩
    rw [sameM_refl]
    replace HG := Lib.hid (HG.out.fr0 f23)
    replace HF := Lib.hid (HF.out.trans f23)
    replace HT := Lib.hid (HT.out.fr f23 (fun _ _ => id))
    replace Bb := Lib.hid (Bb.out.fr f23 id)
    replace HT2 := Lib.hid (HT2.out.fr f23 (fun _ _ => id))
    replace Bc := Lib.hid (Bc.out.fr f23 id)
    replace HT3 := Lib.hid (HT3.out.fr f23 (fun _ _ => id))
    replace Bd := Lib.hid (Bd.out.fr f23 id)
    clear f23
    clear b0 b1 b2 b3 b4 b5
    clear c0 c1 c2 c3 c4 c5
    clear d0 d1 d2 d3 d4 d5
    have b0 := Bb.out.c0
    have b1 := Bb.out.c1
    have b2 := Bb.out.c2
    have b3 := Bb.out.c3
    have b4 := Bb.out.c4
    have b5 := Bb.out.c5
    have c0 := Bc.out.c0
    have c1 := Bc.out.c1
    have c2 := Bc.out.c2
    have c3 := Bc.out.c3
    have c4 := Bc.out.c4
    have c5 := Bc.out.c5
    have d0 := Bd.out.c0
    have d1 := Bd.out.c1
    have d2 := Bd.out.c2
    have d3 := Bd.out.c3
    have d4 := Bd.out.c4
    have d5 := Bd.out.c5
    go_wp2_with fail
    refine (same_c p j _ _ j _ _ _ _ _ HG.out HT3.out HT.out HW.out HW.out).mono ?_
    rintro e w26 ⟨rfl, f25⟩
    rw [sameM_refl]
    replace HG := Lib.hid (HG.out.fr0 f25)
    replace HF := Lib.hid (HF.out.trans f25)
    replace HT := Lib.hid (HT.out.fr f25 (fun _ _ => id))
    replace Bb := Lib.hid (Bb.out.fr f25 id)
    replace HT2 := Lib.hid (HT2.out.fr f25 (fun _ _ => id))
    replace Bc := Lib.hid (Bc.out.fr f25 id)
    replace HT3 := Lib.hid (HT3.out.fr f25 (fun _ _ => id))
    replace Bd := Lib.hid (Bd.out.fr f25 id)
    clear f25
    go_wp2
    go_ret
    exact ⟨rfl, HF.out⟩
end Go.Proofs.YtakgcaehkphepaaGreatDoor

/- diaeresislaw18.JsonNests. -/
namespace Go.Proofs.YtakgcaehkphepaaGreatDoor
open Go.RowKit
set_option linter.unusedVariables false
set_option linter.unusedSimpArgs false
theorem nest_len : ∀ k, (nestS k).length = 2 * k
  | 0 => rfl
  | k + 1 => by rw [nestS, List.length_cons, List.length_append, nest_len k]; simp; omega
theorem Row.one {w : World} {ok : Nat → Prop} {g : Nat} {a0 a1 a2 a3 a4 a5 : Value} (h : B26 w g a0 a1 a2 a3 a4 a5) (hg : ok g) : Row w ok 26 6 (.slice (some ⟨g, 0, none⟩) 1 1) 1 [a0, a1, a2, a3, a4, a5] := by
  refine ⟨⟨rfl, .inr ⟨g, 1, #[a0, a1, a2, a3, a4, a5], rfl, Nat.zero_le _, h, Nat.le_refl _, by decide, rfl, rfl⟩⟩, ?_⟩
  intro k hk
  simp only [Value.ownBlock] at hk
  cases hk
  exact hg
theorem JAt.one {w : World} {ok' : Nat → Prop} {j : J} {kv lv : Value} {kind : Int} {yes : Bool} {n : Int} {s : Bs} {g : Nat} (h : JAt w ok' j kv lv) (hb : B26 w g (.int .i64 j.kind) (.bool j.yes) (.int .i64 j.n) (.string (bs j.s)) kv lv) (hg : ok' g) :
    JAt w ok' (.mk kind yes n s [] [j]) (.slice none 0 0) (.slice (some ⟨g, 0, none⟩) 1 1) :=
  .mk (Row.nil w ok' 9 1) (Row.one hb hg) (by have := JReps.cons h .nil; simpa [jCells] using this)
set_option maxHeartbeats 1500000 in
set_option maxRecDepth 100000 in
theorem nests_c (p : Value) (n : Int) (w : World) (g : Gl p w) :
    Calls Tryz.prog 7 #[.int .i64 n] w fun e w' => e = .returned (.bool true) ∧ Fr none' w w' := by
  have HG := Lib.hid g
  have HF := Lib.hid (Fr.refl none' w)
  clear g
  go_enter Tryz.func7, Tryz.ntmps7
  go_wp2_with fail
  refine (shown_c p _ HG.out).mono ?_
  rintro e w2 ⟨rfl, f1⟩
  replace HG := Lib.hid (HG.out.fr0 f1)
  replace HF := Lib.hid (HF.out.trans f1)
  clear f1
  by_cases h0 : n < 0
  case pos =>
    go_wp2
    go_ret
    exact ⟨rfl, HF.out⟩
  by_cases h1 : 100 < n
  case pos =>
    go_wp2
    go_ret
    exact ⟨rfl, HF.out⟩
  obtain ⟨q, rfl⟩ := Int.eq_ofNat_of_zero_le (Int.not_lt.1 h0)
  have hq : q ≤ 100 := by omega
  clear h0 h1
  go_wp2
  go_loopw [4, 5] (fun a i wr => ∃ k : Nat, i = .int .i64 k ∧ k ≤ q ∧ a = .string (bs (nestS k)) ∧ wr = w2) (fun _ i _ => q - (intOf i).toNat)
  case atStart => exact ⟨0, rfl, Nat.zero_le _, rfl, rfl⟩
  case round =>
    obtain ⟨k, rfl, hk, rfl, rfl⟩ := hrel
    have hl := nest_len k
    have z1 : (bs (nestS k)).size ≤ 200 := by rw [bs_size]; omega
    have z2 : (⟨#[91]⟩ : ByteArray) ++ bs (nestS k) ++ ⟨#[93]⟩ = bs (nestS (k + 1)) := by show bs [91] ++ bs (nestS k) ++ bs [93] = _; rw [bs_append, bs_append]; rfl
    by_cases hlt : k < q
    case pos =>
      go_wp2
      go_roundw
      case rel => exact ⟨k + 1, by go_num, by omega, rfl, trivial⟩
      case measure => simp [intOf]; omega
    obtain rfl : k = q := by omega
    obtain ⟨j, e, hp⟩ : ∃ j e, parseM (nestS k) = (j, e) := ⟨_, _, rfl⟩
    have hw := parse_wt (nestS k)
    rw [hp] at hw
    have HW := Lib.hid (wt_jsz 1000000000 j (by simp only at hw; omega))
    have HNM := Lib.hid hw.2
    have HTX := Lib.hid (Nat.le_trans (text_wt j hw.2) (show wt j ≤ 20000 by simp only at hw; omega))
    have HP := Lib.hid hp
    clear hp hw z2 hlt
    go_wp2_with fail
    refine (parse_c p (nestS k) _ HG.out (by omega)).mono ?_
    rintro e w4 ⟨kv, lv, rfl, T, f3⟩
    rw [HP.out] at T ⊢
    obtain ⟨kA, kn, kc, lA, ln, lc, rfl, rfl⟩ := T.form
    replace HG := Lib.hid (HG.out.fr0 f3)
    replace HF := Lib.hid (HF.out.trans f3)
    clear f3
    have HT := Lib.hid (T.mono (ok' := fun k => k < w4.heap.size) (fun k _ h => h))
    clear T
    unfold jVal
    go_upto_region 10 with (fail)
    have A6 : Fr none' w4 (w4.alloc (.cells #[.int .i64 j.kind, .bool j.yes, .int .i64 j.n, .string (bs j.s), .slice kA kn kc, .slice lA ln lc] 26)) := (Fr.refl _ _).alloc _
    have Bb := Lib.hid (B26.new w4 (.int .i64 j.kind) (.bool j.yes) (.int .i64 j.n) (.string (bs j.s)) (.slice kA kn kc) (.slice lA ln lc))
    replace HG := Lib.hid (HG.out.fr0 A6)
    replace HF := Lib.hid (HF.out.trans A6)
    replace HT := Lib.hid (HT.out.fr A6 (fun _ _ => id))
    clear A6
    obtain ⟨w5, hw5⟩ : ∃ w5, w4.alloc (.cells #[.int .i64 j.kind, .bool j.yes, .int .i64 j.n, .string (bs j.s), .slice kA kn kc, .slice lA ln lc] 26) = w5 := ⟨_, rfl⟩
    rw [hw5] at HG HF HT Bb ⊢
    clear hw5
    obtain ⟨b, hb⟩ : ∃ b, w4.heap.size = b := ⟨_, rfl⟩
    rw [hb] at Bb ⊢
    clear hb
    have b0 := Bb.out.c0
    have b1 := Bb.out.c1
    have b2 := Bb.out.c2
    have b3 := Bb.out.c3
    have b4 := Bb.out.c4
    have b5 := Bb.out.c5
    by_cases hk0 : k = 0
    case pos =>
      subst hk0
      have hpp := HP.out
      rw [show nestS 0 = [] from rfl, law_nest0] at hpp
      injection hpp with h1 h2
      subst h2
      clear h1
      go_wp2
      go_ret
      exact ⟨rfl, HF.out⟩
    by_cases hk1 : 64 < k
    case pos =>
      have hpp := HP.out
      rw [law_nest_deep k hk1] at hpp
      injection hpp with h1 h2
      subst h2
      have HJ := Lib.hid h1
      clear h1
      go_wp2_with fail
      refine (same_c p j _ (fun _ => True) nullJ _ _ _ _ _ HG.out HT.out (JAt.nil _ _ _ _ _ _) HW.out (wt_jsz _ _ (by decide))).mono ?_
      rintro e w8 ⟨rfl, f7⟩
      replace HG := Lib.hid (HG.out.fr0 f7)
      replace HF := Lib.hid (HF.out.trans f7)
      replace HT := Lib.hid (HT.out.fr f7 (fun _ _ => id))
      replace Bb := Lib.hid (Bb.out.fr f7 id)
      clear f7
      rw [show sameM j nullJ = true from (sameM_eq _ _).2 HJ.out.symm]
      go_wp2
      go_ret
      exact ⟨rfl, HF.out⟩
    obtain ⟨r, rfl⟩ : ∃ r, k = r + 1 := ⟨k - 1, by omega⟩
    obtain ⟨hp1, hp2, hp3⟩ := law_nest r (by omega)
    have hpp := HP.out
    rw [hp1] at hpp
    injection hpp with h1 h2
    subst h2
    subst h1
    have HP2 := Lib.hid hp2
    have HP3 := Lib.hid hp3
    clear hp1 hp2 hp3
    obtain ⟨N, hN⟩ : ∃ N, nestJ r = N := ⟨_, rfl⟩
    have hNN : nestJ (r + 1) = emptyJ 4 [] [N] := by rw [← hN]; rfl
    rw [hNN] at HP3
    have HNN := Lib.hid hNN
    rw [hN] at HP HP2 HW HNM HTX Bb HT b0 b1 b2 b3 ⊢
    clear hN hNN
    go_wp2_with fail
    refine (print_c p _ N _ _ _ HG.out HT.out HW.out HNM.out (by have := HTX.out; omega)).mono ?_
    rintro e w10 ⟨rfl, f9⟩
    rw [HP2.out]
    replace HG := Lib.hid (HG.out.fr0 f9)
    replace HF := Lib.hid (HF.out.trans f9)
    replace HT := Lib.hid (HT.out.fr f9 (fun _ _ => id))
    replace Bb := Lib.hid (Bb.out.fr f9 id)
    clear f9
    clear b0 b1 b2 b3 b4 b5
    have b0 := Bb.out.c0
    have b1 := Bb.out.c1
    have b2 := Bb.out.c2
    have b3 := Bb.out.c3
    have b4 := Bb.out.c4
    have b5 := Bb.out.c5
    go_wp2_with fail
    have A12 : Fr none' w10 (w10.alloc (.cells #[.int .i64 N.kind, .bool N.yes, .int .i64 N.n, .string (bs N.s), .slice kA kn kc, .slice lA ln lc] 26)) := (Fr.refl _ _).alloc _
    have Bc := Lib.hid (B26.new w10 (.int .i64 N.kind) (.bool N.yes) (.int .i64 N.n) (.string (bs N.s)) (.slice kA kn kc) (.slice lA ln lc))
    replace HG := Lib.hid (HG.out.fr0 A12)
    replace HF := Lib.hid (HF.out.trans A12)
    replace HT := Lib.hid (HT.out.fr A12 (fun _ _ => id))
    replace Bb := Lib.hid (Bb.out.fr A12 id)
    clear A12
    obtain ⟨w11, hw11⟩ : ∃ w11, w10.alloc (.cells #[.int .i64 N.kind, .bool N.yes, .int .i64 N.n, .string (bs N.s), .slice kA kn kc, .slice lA ln lc] 26) = w11 := ⟨_, rfl⟩
    rw [hw11] at HG HF HT Bb Bc ⊢
    clear hw11
    obtain ⟨c, hc⟩ : ∃ c, w10.heap.size = c := ⟨_, rfl⟩
    rw [hc] at Bc ⊢
    clear hc
    have hone := JAt.one (kind := 4) (yes := false) (n := 0) (s := []) (ok' := fun _ => True) (HT.out.mono (fun _ _ _ => trivial)) Bc.out trivial
    rw [show (J.mk 4 false 0 [] [] [N] : J) = emptyJ 4 [] [N] from rfl] at hone
    have HO := Lib.hid hone
    clear hone
    clear b0 b1 b2 b3 b4 b5
    refine (print_c p _ (emptyJ 4 [] [N]) _ _ _ HG.out HO.out (JSz.mk (by simp) (by simp) (by simp) (by simp) (fun x hx => by rw [List.mem_singleton] at hx; rw [hx]; exact HW.out)) (by unfold emptyJ; rw [numOk, numsOk, HNM.out]; rfl) (by rw [← HNN.out, text_nest, nest_len]; omega)).mono ?_
    rintro e w14 ⟨rfl, f13⟩
    rw [HP3.out]
    replace HG := Lib.hid (HG.out.fr0 f13)
    replace HF := Lib.hid (HF.out.trans f13)
    replace HT := Lib.hid (HT.out.fr f13 (fun _ _ => id))
    replace Bb := Lib.hid (Bb.out.fr f13 id)
    replace Bc := Lib.hid (Bc.out.fr f13 id)
    clear f13
    have z2 : (⟨#[91]⟩ : ByteArray) ++ bs (nestS (r + 1)) ++ ⟨#[93]⟩ = bs (nestS (r + 1 + 1)) := by show bs [91] ++ bs (nestS (r + 1)) ++ bs [93] = _; rw [bs_append, bs_append]; rfl
    obtain ⟨S2, hS2⟩ : ∃ S2, nestS (r + 1 + 1) = S2 := ⟨_, rfl⟩
    rw [hS2] at z2 ⊢
    clear hS2
    obtain ⟨S, hS⟩ : ∃ S, nestS (r + 1) = S := ⟨_, rfl⟩
    rw [hS] at z1 z2 ⊢
    clear hS hl HP HP2 HP3 HNN HTX
    have e1 : ((bs S).toList == (bs S).toList) = true := by simp
    have e2 : ((bs S2).toList == (bs S2).toList) = true := by simp
    by_cases h64 : r + 1 < 64
    case pos =>
      rw [if_pos h64]
      have e3 : (((r : Int) + 1) == 64) = false := by simp; omega
      have e4 : (r : Int) + 1 < 64 := by omega
      go_wp2
      go_ret
      exact ⟨rfl, HF.out⟩
    rw [if_neg h64]
    have e0 : (bs ([] : Bs)).toList.isEmpty = true := by rw [bs_toList]; rfl
    have e3 : (((r : Int) + 1) == 64) = true := by simp; omega
    have e4 : ¬ (r : Int) + 1 < 64 := by omega
    go_wp2
    go_ret
    exact ⟨rfl, HF.out⟩
end Go.Proofs.YtakgcaehkphepaaGreatDoor
