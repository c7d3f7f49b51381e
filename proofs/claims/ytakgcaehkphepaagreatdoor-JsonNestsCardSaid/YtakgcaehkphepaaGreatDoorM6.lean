/- json.Quote; json.text, json.group. -/
import Derived.Test.YtakgcaehkphepaaGreatDoorM5
namespace Go.Proofs.YtakgcaehkphepaaGreatDoor
open Go.RowKit
set_option linter.unusedVariables false
set_option linter.unusedSimpArgs false

/-- What json.Quote answers. -/
def quoteM (s : Bs) : Bs := if Lib.validD s then quoteB s else []
set_option maxHeartbeats 1000000 in
theorem quote_c (p : Value) (s : Bs) (w : World) (g : Gl p w) (hN : s.length ≤ 1000000000) :
    Calls Tryz.prog 22 #[.string (bs s)] w fun e w' => e = .returned (.tuple #[.string (bs (quoteM s)), .bool (Lib.validD s)]) ∧ Fr none' w w' := by
  obtain ⟨QM, hQM⟩ : ∃ QM, quoteM s = QM := ⟨_, rfl⟩
  rw [hQM]
  have HQM := Lib.hid hQM
  clear hQM
  go_enter Tryz.func22, Tryz.ntmps22
  go_wp2_with fail
  refine (valid_c p s _ g (by omega)).mono ?_
  rintro e w2 ⟨rfl, f2⟩
  cases hv : Lib.validD s with
  | false =>
    have hq := HQM.out
    unfold quoteM at hq
    rw [hv] at hq
    have HE := Lib.hid (show ([] : Bs) = QM from hq)
    have HV := Lib.hid hv
    clear hq hv
    go_wp2
    go_ret2
    exact ⟨by rw [← HE.out, HV.out]; rfl, f2⟩
  | true =>
    have hq := HQM.out
    unfold quoteM at hq
    rw [hv] at hq
    have HE := Lib.hid (show quoteB s = QM from hq)
    have HV := Lib.hid hv
    clear hq hv
    go_wp2_with fail
    refine (quoted_c s HV.out hN _).mono ?_
    rintro e w3 ⟨rfl, f3⟩
    go_wp2
    go_ret2
    exact ⟨by rw [← HE.out, HV.out]; rfl, f2.trans f3⟩
/-! group_words -/
/-- What json.text does at a value. -/
def TextOk (p : Value) (x : J) : Prop := ∀ (ok : Nat → Prop) (kv lv : Value) (w : World), Gl p w → JAt w ok x kv lv →
  Calls Tryz.prog 34 #[jVal x kv lv] w fun e w' => e = .returned (.string (bs (textM x))) ∧ Fr none' w w'
/-- The parts of a list's, an object's text. -/
def partsM (kind : Int) (keys : List Bs) (l : List J) : List Bs := if kind = 5 then pairsM keys (l.map textM) else l.map textM
theorem parts4 (keys : List Bs) (l : List J) (i : Nat) (x : J) (hx : l[i]? = some x) : (partsM 4 keys l)[i]? = some (textM x) := by
  unfold partsM; rw [if_neg (by decide)]; simp [hx]
theorem parts5 (keys : List Bs) (l : List J) (i : Nat) (x : J) (k : Bs) (hx : l[i]? = some x) (hk : keys[i]? = some k) : (partsM 5 keys l)[i]? = some (quoteB k ++ 58 :: textM x) := by
  unfold partsM pairsM; rw [if_pos rfl]; simp [List.getElem?_zipWith, hx, hk]
theorem own_cells {w : World} {B g cap n : Nat} {ks : List Bs} (h : w.ownsRow B 9 1 (.slice (some ⟨g, 0, none⟩) n cap) n (strC ks)) (j : Nat) (x : Bs) (hx : ks[j]? = some x) : w.cell? ⟨g, j, none⟩ = some (.string (bs x)) := by
  have := (own_cell h (i := j) (u := .string (bs x)) (by simp [strC, hx])).1
  exact this
theorem join_c (B : Nat) (v : Value) (ks : List Bs) (w : World) (h : w.ownsRow B 9 1 v ks.length (strC ks)) (hlen : (Lib.join ks [44]).length ≤ 1000000000) (hN : ks.length ≤ 1000000000) :
    Calls Tryz.prog 89 #[v, .string ⟨#[44]⟩] w fun e w' => e = .returned (.string (bs (Lib.join ks [44]))) ∧ Fr none' w w' := by
  rcases h.2 with ⟨rfl, h0⟩ | ⟨g, cap, cur, rfl, hg, hh, hn, hcap, hsz, htk⟩
  · obtain rfl := List.eq_nil_of_length_eq_zero h0
    refine (Tryz.strings_Join_none none 0 ⟨#[44]⟩ w).mono ?_
    rintro e w' ⟨he, hw⟩
    exact ⟨he, hw ▸ Fr.refl _ _⟩
  · have e1 : (ks.map bs).map (fun b => b.data.toList) = ks := by rw [List.map_map]; exact (List.map_congr_left (fun b _ => bs_data b)).trans (List.map_id ks)
    have := Tryz.strings_Join g 0 cap (ks.map bs) ⟨#[44]⟩ w (by
      intro j x hx
      rw [List.getElem?_map, Option.map_eq_some_iff] at hx
      obtain ⟨y, hy, rfl⟩ := hx
      rw [Nat.zero_add]
      exact own_cells h j y hy) (lt_of hh) (by rw [List.length_map]; omega) (by rw [List.length_map]; exact hn) (by rw [e1]; show (Lib.join ks [44]).length ≤ _; omega)
    rw [List.length_map] at this
    refine this.mono ?_
    rintro e w' ⟨he, hb⟩
    rw [e1] at he
    exact ⟨he, Fr.of_below hb _⟩
theorem strC_snoc (l : List Bs) (x : Bs) : strC (l ++ [x]) = strC l ++ [.string (bs x)] := by simp [strC]
theorem part_len (ps : List Bs) : ∀ (i : Nat) (x : Bs), ps[i]? = some x → x.length ≤ (Lib.join ps [44]).length := by
  induction ps with
  | nil => intro i x h; simp at h
  | cons a r ih =>
    intro i x h
    cases r with
    | nil =>
      cases i with
      | zero => simp at h; subst h; rw [Lib.join_one]; exact Nat.le_refl _
      | succ i => simp at h
    | cons b r =>
      rw [join_cons2, List.length_append, List.length_append]
      cases i with
      | zero => simp at h; subst h; omega
      | succ i =>
        simp only [List.getElem?_cons_succ] at h
        have := ih i x h
        omega

set_option maxHeartbeats 8000000 in
set_option maxRecDepth 100000 in
theorem group5_c (p : Value) (keys : List Bs) (l : List J) (hT : ∀ x ∈ l, TextOk p x) (hlen : (Lib.join (partsM 5 keys l) [44]).length ≤ 1000000000) (hl : l.length ≤ 1000000000) (hkl : keys.length = l.length) (hkv : ∀ k ∈ keys, Lib.validD k = true ∧ k.length ≤ 1000000000)
    (ok : Nat → Prop) (kv lv : Value) (w : World) (g : Gl p w) (hj : JAt w ok (emptyJ 5 keys l) kv lv) :
    Calls Tryz.prog 60 #[jVal (emptyJ 5 keys l) kv lv] w fun e w' => e = .returned (.string (bs (123 :: (Lib.join (partsM 5 keys l) [44] ++ [125])))) ∧ Fr none' w w' := by
  obtain ⟨i0, hi, hz0, hz1, hz2⟩ := info_parts Jx.infoStr
  have hst := hj.strs
  have hit := hj.items
  simp only [emptyJ, J.keys, J.l] at hst hit
  have hkf : ∃ A n c, kv = .slice A n c := by rcases hst with ⟨rfl, rfl⟩ | ⟨g, cap, rfl, _⟩ <;> exact ⟨_, _, _, rfl⟩
  have hlf : ∃ A c, lv = .slice A l.length c := by rcases hit with ⟨rfl, rfl⟩ | ⟨g, cap, rfl, _⟩ <;> exact ⟨_, _, rfl⟩
  obtain ⟨kA, kn, kc, rfl⟩ := hkf
  obtain ⟨lA, lc, rfl⟩ := hlf
  obtain ⟨PS, hPS⟩ : ∃ PS, partsM 5 keys l = PS := ⟨_, rfl⟩
  have hPl : PS.length = l.length := by rw [← hPS]; unfold partsM; rw [if_pos rfl]; simp [pairsM, hkl]
  have hPat : ∀ (i : Nat) (x : J), l[i]? = some x → ∀ k, keys[i]? = some k → PS[i]? = some (quoteB k ++ 58 :: textM x) := fun i x hx k hk => by rw [← hPS]; exact parts5 keys l i x k hx hk
  rw [hPS] at hlen ⊢
  clear hPS
  have HB1 := Lib.hid (B26.new w (.int .i64 5) (.bool false) (.int .i64 0) (.string (bs [])) (.slice kA kn kc) (.slice lA l.length lc))
  have HF1 := Lib.hid ((Fr.refl none' w).alloc (.cells #[.int .i64 5, .bool false, .int .i64 0, .string (bs []), .slice kA kn kc, .slice lA l.length lc] 26 (0, 0)))
  have HS1 := Lib.hid (show (w.alloc (.cells #[.int .i64 5, .bool false, .int .i64 0, .string (bs []), .slice kA kn kc, .slice lA l.length lc] 26 (0, 0))).heap.size = w.heap.size + 1 by simp)
  have HG := Lib.hid g
  have HST := Lib.hid hst
  have HIT := Lib.hid hit
  have HT := Lib.hid hT
  have HLEN := Lib.hid hlen
  have HPL := Lib.hid hPl
  have HPA := Lib.hid hPat
  have HKL := Lib.hid hkl
  have HKV := Lib.hid hkv
  clear g hst hit hT hlen hPl hPat hj hkl hkv
  simp only [emptyJ, jVal, J.kind, J.yes, J.n, J.s]
  go_enter Tryz.func60, Tryz.ntmps60
  go_upto_region 1 with (fail)
  obtain ⟨w1, hw1⟩ : ∃ w1, w.alloc (.cells #[.int .i64 5, .bool false, .int .i64 0, .string (bs []), .slice kA kn kc, .slice lA l.length lc] 26) = w1 := ⟨_, rfl⟩
  rw [hw1] at HB1 HF1 HS1 ⊢
  clear hw1
  have b0 := HB1.out.c0
  have b4 := HB1.out.c4
  have b5 := HB1.out.c5
  have hln : l.length ≤ 9223372036854775807 := by omega
  go_wp2
  go_loopw [3, 11] (fun v i wr => ∃ k : Nat, i = .int .i64 k ∧ k ≤ l.length ∧ wr.ownsRow (w.heap.size + 1) 9 1 v k (strC (PS.take k)) ∧ Fr none' w1 wr) (fun _ i _ => l.length - (intOf i).toNat)
  case atStart => exact ⟨0, rfl, Nat.zero_le _, ⟨rfl, .inl ⟨rfl, rfl⟩⟩, Fr.refl _ _⟩
  case round =>
    obtain ⟨k, rfl, hk, hown, hf⟩ := hrel
    have HO := Lib.hid hown
    have HF := Lib.hid hf
    have hb0 := (HB1.out.fr hf id).c0
    have hb4 := (HB1.out.fr hf id).c4
    clear hown hf b0 b4 b5
    obtain ⟨vA, vc, rfl⟩ := own_form HO.out
    by_cases hlt : k < l.length
    · obtain ⟨x, hx⟩ : ∃ x, l[k]? = some x := ⟨_, List.getElem?_eq_getElem hlt⟩
      rcases HIT.out with ⟨e, e2⟩ | ⟨gb, cap, e, hcap, hmax, hc⟩
      · rw [e2] at hx; simp at hx
      · injection e with e1 _ e3
        subst e1
        subst e3
        obtain ⟨kv', lv', hjx, hcx⟩ := hc k x hx
        have FW := HF1.out.trans HF.out
        have hcx' := hcx.fr FW
        obtain ⟨xkA, xkn, xkc, xlA, xln, xlc, rfl, rfl⟩ := hjx.form
        have c0 := hcx'.c0
        have c1 := hcx'.c1
        have c2 := hcx'.c2
        have c3 := hcx'.c3
        have c4 := hcx'.c4
        have c5 := hcx'.c5
        have FA := (Fr.refl none' wr).alloc (.cells #[.int .i64 x.kind, .bool x.yes, .int .i64 x.n, .string (bs x.s), .slice xkA xkn xkc, .slice xlA xln xlc] 26 (0, 0))
        have HJ := Lib.hid ((hjx.fr FW (fun _ _ => id)).fr FA (fun _ _ => id))
        have HGA := Lib.hid (HG.out.fr0 (FW.trans FA))
        have HFA := Lib.hid FA
        have HXM := Lib.hid (List.mem_of_getElem? hx)
        have HX := Lib.hid hx
        clear hc hcx hcx' hjx FW FA hx
        go_wp2_with fail
        have hcall := HT.out x HXM.out ok _ _ _ HGA.out HJ.out
        unfold jVal at hcall
        refine hcall.mono ?_
        clear hcall
        rintro e w2 ⟨rfl, f2⟩
        have HF2 := Lib.hid (HF.out.trans (HFA.out.trans f2))
        have HFK := Lib.hid (HFA.out.trans f2)
        clear f2 c0 c1 c2 c3 c4 c5
        have hb0 := (HB1.out.fr HF2.out id).c0
        have hb4 := (HB1.out.fr HF2.out id).c4
        obtain ⟨ky, hky⟩ : ∃ ky, keys[k]? = some ky := ⟨_, List.getElem?_eq_getElem (by rw [HKL.out]; exact hlt)⟩
        rcases HST.out with ⟨e, e2⟩ | ⟨gk, capk, e, hcapk, hck⟩
        · rw [e2] at hky; simp at hky
        · injection e with e1 e2 e3
          subst e1
          subst e2
          subst e3
          have hlk : k < keys.length := by rw [HKL.out]; exact hlt
          have ck := (HF1.out.trans HF2.out).cell (hck k ky hky) id
          have HKY := Lib.hid hky
          have HCK := Lib.hid hck
          clear hky hck
          go_wp2_with fail
          have hkm := HKV.out ky (List.mem_of_getElem? HKY.out)
          refine (quoted_c ky hkm.1 hkm.2 _).mono ?_
          clear hkm
          rintro e w3 ⟨rfl, f3⟩
          have hcat : bs (quoteB ky) ++ ⟨#[58]⟩ ++ bs (textM x) = bs (quoteB ky ++ 58 :: textM x) := by
            rw [show (⟨#[58]⟩ : ByteArray) = bs [58] from rfl, bs_append, bs_append]; simp
          obtain ⟨PT, hPT⟩ : ∃ PT, quoteB ky ++ 58 :: textM x = PT := ⟨_, rfl⟩
          have hPk := HPA.out k x HX.out ky HKY.out
          have hpl := part_len PS k _ hPk
          have hle := HLEN.out
          rw [List.length_append, List.length_cons] at hpl
          have hs1 : (bs (quoteB ky)).size ≤ 1000000000 := by rw [bs_size]; omega
          have hs2 : (bs (textM x)).size ≤ 1000000000 := by rw [bs_size]; omega
          rw [hPT] at hcat hPk
          clear hpl hle
          have HF3 := Lib.hid (HF2.out.trans f3)
          have HO3 := Lib.hid (ownsRow_fr (ownsRow_fr HO.out HFK.out (fun _ _ => id)) f3 (fun _ _ => id))
          clear f3 ck hPT
          have HPK := Lib.hid hPk
          have HS3 := Lib.hid (show w.heap.size + 1 ≤ w3.heap.size by have := HB1.out.lt; have := HF3.out.size; omega)
          clear hPk
          go_wp2_with (at_builtin; refine wpList_append_own _ rfl _ _ 23 rfl (w.heap.size + 1) 9 i0 (.string ⟨#[]⟩) 1 16 Tryz.underlying23 hi hz0 hz1 hz2 rfl (by decide) _ _ _ rfl (HO3.out.alloc _) ⟨w3.heap.size, 0, none⟩ 1 1 [.string (bs PT)] rfl rfl ?c1 ?c2 ?c3 ?c4 ?c5 ?_)
          case c1 => exact cell_one_new _ _ _
          case c2 => intro u hu; simp at hu; subst hu; rfl
          case c3 => unfold maxLen; omega
          case c4 => omega
          case c5 => exact Nat.le_trans HS3.out ((Fr.refl none' _).alloc _).size
          intro v' w4 hown' hgrow _
          have HO4 : Hid (w4.ownsRow (w.heap.size + 1) 9 1 v' (k + 1) (strC (PS.take (k + 1)))) := by
            have e : PS.take (k + 1) = PS.take k ++ [PT] := by
              obtain ⟨h1, h2⟩ := List.getElem?_eq_some_iff.1 HPK.out
              rw [List.take_succ_eq_append_getElem h1, h2]
            rw [e, strC_snoc]
            exact hown'
          have f4 : Fr none' w1 w4 := by
            have h1 : Fr (fun i => some i = (Value.slice vA k vc).ownBlock) w3 w4 := ((Fr.refl _ _).alloc _).trans (Fr.of_grown hgrow)
            have h2 := HF3.out
            exact Fr.call HF3.out h1 (fun i hi => .inr (by have := (ownsRow_ge HO3.out hi.symm).1; have := HS1.out; omega))
          clear hown' hgrow
          have HF4 := Lib.hid f4
          clear f4
          go_wp2
          go_roundw
          case rel => exact ⟨k + 1, by go_num, by omega, HO4.out, HF4.out⟩
          case measure => simp [intOf]; omega
    · have e : k = l.length := by omega
      subst e
      have hown2 : wr.ownsRow (w.heap.size + 1) 9 1 (.slice vA l.length vc) PS.length (strC PS) := by
        have h := HO.out
        rw [List.take_of_length_le (by rw [HPL.out]; exact Nat.le_refl _)] at h
        rw [HPL.out]; exact h
      have HO2 := Lib.hid hown2
      clear hown2
      go_wp2_with fail
      refine (join_c _ _ PS _ HO2.out HLEN.out (by rw [HPL.out]; exact hl)).mono ?_
      rintro e w5 ⟨rfl, f5⟩
      have hle := HLEN.out
      obtain ⟨JJ, hJJ⟩ : ∃ JJ, Lib.join PS [44] = JJ := ⟨_, rfl⟩
      rw [hJJ] at hle ⊢
      have HJJ := Lib.hid hJJ
      have hs1 : (bs JJ).size ≤ 1000000000 := by rw [bs_size]; exact hle
      have hcat : ⟨#[123]⟩ ++ bs JJ ++ ⟨#[125]⟩ = bs (123 :: (JJ ++ [125])) := by
        rw [show (⟨#[123]⟩ : ByteArray) = bs [123] from rfl, show (⟨#[125]⟩ : ByteArray) = bs [125] from rfl, bs_append, bs_append]; rfl
      have HF5 := Lib.hid (HF.out.trans f5)
      have hb0' := f5.cell hb0 id
      clear hle hJJ f5 hb0 hb4
      go_wp2
      go_ret
      exact ⟨by rw [HJJ.out]; rfl, HF1.out.trans HF5.out⟩

set_option maxHeartbeats 8000000 in
set_option maxRecDepth 100000 in
theorem group4_c (p : Value) (keys : List Bs) (l : List J) (hT : ∀ x ∈ l, TextOk p x) (hlen : (Lib.join (partsM 4 keys l) [44]).length ≤ 1000000000) (hl : l.length ≤ 1000000000)
    (ok : Nat → Prop) (kv lv : Value) (w : World) (g : Gl p w) (hj : JAt w ok (emptyJ 4 keys l) kv lv) :
    Calls Tryz.prog 60 #[jVal (emptyJ 4 keys l) kv lv] w fun e w' => e = .returned (.string (bs (91 :: (Lib.join (partsM 4 keys l) [44] ++ [93])))) ∧ Fr none' w w' := by
  obtain ⟨i0, hi, hz0, hz1, hz2⟩ := info_parts Jx.infoStr
  have hst := hj.strs
  have hit := hj.items
  simp only [emptyJ, J.keys, J.l] at hst hit
  have hkf : ∃ A n c, kv = .slice A n c := by rcases hst with ⟨rfl, rfl⟩ | ⟨g, cap, rfl, _⟩ <;> exact ⟨_, _, _, rfl⟩
  have hlf : ∃ A c, lv = .slice A l.length c := by rcases hit with ⟨rfl, rfl⟩ | ⟨g, cap, rfl, _⟩ <;> exact ⟨_, _, rfl⟩
  obtain ⟨kA, kn, kc, rfl⟩ := hkf
  obtain ⟨lA, lc, rfl⟩ := hlf
  obtain ⟨PS, hPS⟩ : ∃ PS, partsM 4 keys l = PS := ⟨_, rfl⟩
  have hPl : PS.length = l.length := by rw [← hPS]; unfold partsM; rw [if_neg (by decide)]; simp
  have hPat : ∀ (i : Nat) (x : J), l[i]? = some x → PS[i]? = some (textM x) := fun i x hx => by rw [← hPS]; exact parts4 keys l i x hx
  rw [hPS] at hlen ⊢
  clear hPS
  have HB1 := Lib.hid (B26.new w (.int .i64 4) (.bool false) (.int .i64 0) (.string (bs [])) (.slice kA kn kc) (.slice lA l.length lc))
  have HF1 := Lib.hid ((Fr.refl none' w).alloc (.cells #[.int .i64 4, .bool false, .int .i64 0, .string (bs []), .slice kA kn kc, .slice lA l.length lc] 26 (0, 0)))
  have HS1 := Lib.hid (show (w.alloc (.cells #[.int .i64 4, .bool false, .int .i64 0, .string (bs []), .slice kA kn kc, .slice lA l.length lc] 26 (0, 0))).heap.size = w.heap.size + 1 by simp)
  have HG := Lib.hid g
  have HST := Lib.hid hst
  have HIT := Lib.hid hit
  have HT := Lib.hid hT
  have HLEN := Lib.hid hlen
  have HPL := Lib.hid hPl
  have HPA := Lib.hid hPat


  clear g hst hit hT hlen hPl hPat hj 
  simp only [emptyJ, jVal, J.kind, J.yes, J.n, J.s]
  go_enter Tryz.func60, Tryz.ntmps60
  go_upto_region 1 with (fail)
  obtain ⟨w1, hw1⟩ : ∃ w1, w.alloc (.cells #[.int .i64 4, .bool false, .int .i64 0, .string (bs []), .slice kA kn kc, .slice lA l.length lc] 26) = w1 := ⟨_, rfl⟩
  rw [hw1] at HB1 HF1 HS1 ⊢
  clear hw1
  have b0 := HB1.out.c0
  have b4 := HB1.out.c4
  have b5 := HB1.out.c5
  have hln : l.length ≤ 9223372036854775807 := by omega
  go_wp2
  go_loopw [3, 11] (fun v i wr => ∃ k : Nat, i = .int .i64 k ∧ k ≤ l.length ∧ wr.ownsRow (w.heap.size + 1) 9 1 v k (strC (PS.take k)) ∧ Fr none' w1 wr) (fun _ i _ => l.length - (intOf i).toNat)
  case atStart => exact ⟨0, rfl, Nat.zero_le _, ⟨rfl, .inl ⟨rfl, rfl⟩⟩, Fr.refl _ _⟩
  case round =>
    obtain ⟨k, rfl, hk, hown, hf⟩ := hrel
    have HO := Lib.hid hown
    have HF := Lib.hid hf
    have hb0 := (HB1.out.fr hf id).c0
    have hb4 := (HB1.out.fr hf id).c4
    clear hown hf b0 b4 b5
    obtain ⟨vA, vc, rfl⟩ := own_form HO.out
    by_cases hlt : k < l.length
    · obtain ⟨x, hx⟩ : ∃ x, l[k]? = some x := ⟨_, List.getElem?_eq_getElem hlt⟩
      rcases HIT.out with ⟨e, e2⟩ | ⟨gb, cap, e, hcap, hmax, hc⟩
      · rw [e2] at hx; simp at hx
      · injection e with e1 _ e3
        subst e1
        subst e3
        obtain ⟨kv', lv', hjx, hcx⟩ := hc k x hx
        have FW := HF1.out.trans HF.out
        have hcx' := hcx.fr FW
        obtain ⟨xkA, xkn, xkc, xlA, xln, xlc, rfl, rfl⟩ := hjx.form
        have c0 := hcx'.c0
        have c1 := hcx'.c1
        have c2 := hcx'.c2
        have c3 := hcx'.c3
        have c4 := hcx'.c4
        have c5 := hcx'.c5
        have FA := (Fr.refl none' wr).alloc (.cells #[.int .i64 x.kind, .bool x.yes, .int .i64 x.n, .string (bs x.s), .slice xkA xkn xkc, .slice xlA xln xlc] 26 (0, 0))
        have HJ := Lib.hid ((hjx.fr FW (fun _ _ => id)).fr FA (fun _ _ => id))
        have HGA := Lib.hid (HG.out.fr0 (FW.trans FA))
        have HFA := Lib.hid FA
        have HXM := Lib.hid (List.mem_of_getElem? hx)
        have HX := Lib.hid hx
        clear hc hcx hcx' hjx FW FA hx
        go_wp2_with fail
        have hcall := HT.out x HXM.out ok _ _ _ HGA.out HJ.out
        unfold jVal at hcall
        refine hcall.mono ?_
        clear hcall
        rintro e w2 ⟨rfl, f2⟩
        have HF2 := Lib.hid (HF.out.trans (HFA.out.trans f2))
        have HFK := Lib.hid (HFA.out.trans f2)
        clear f2 c0 c1 c2 c3 c4 c5
        have hb0 := (HB1.out.fr HF2.out id).c0
        have hb4 := (HB1.out.fr HF2.out id).c4
        have hPk := HPA.out k x HX.out
        obtain ⟨PT, hPT⟩ : ∃ PT, textM x = PT := ⟨_, rfl⟩
        rw [hPT] at hPk ⊢
        have HF3 := Lib.hid HF2.out
        have HO3 := Lib.hid (ownsRow_fr HO.out HFK.out (fun _ _ => id))
        clear hPT
        have HPK := Lib.hid hPk
        have HS3 := Lib.hid (show w.heap.size + 1 ≤ w2.heap.size by have := HB1.out.lt; have := HF3.out.size; omega)
        clear hPk
        go_wp2_with (at_builtin; refine wpList_append_own _ rfl _ _ 23 rfl (w.heap.size + 1) 9 i0 (.string ⟨#[]⟩) 1 16 Tryz.underlying23 hi hz0 hz1 hz2 rfl (by decide) _ _ _ rfl (HO3.out.alloc _) ⟨w2.heap.size, 0, none⟩ 1 1 [.string (bs PT)] rfl rfl ?c1 ?c2 ?c3 ?c4 ?c5 ?_)
        case c1 => exact cell_one_new _ _ _
        case c2 => intro u hu; simp at hu; subst hu; rfl
        case c3 => unfold maxLen; omega
        case c4 => omega
        case c5 => exact Nat.le_trans HS3.out ((Fr.refl none' _).alloc _).size
        intro v' w4 hown' hgrow _
        have HO4 : Hid (w4.ownsRow (w.heap.size + 1) 9 1 v' (k + 1) (strC (PS.take (k + 1)))) := by
          have e : PS.take (k + 1) = PS.take k ++ [PT] := by
            obtain ⟨h1, h2⟩ := List.getElem?_eq_some_iff.1 HPK.out
            rw [List.take_succ_eq_append_getElem h1, h2]
          rw [e, strC_snoc]
          exact hown'
        have f4 : Fr none' w1 w4 := by
          have h1 : Fr (fun i => some i = (Value.slice vA k vc).ownBlock) w2 w4 := ((Fr.refl _ _).alloc _).trans (Fr.of_grown hgrow)
          have h2 := HF3.out
          exact Fr.call HF3.out h1 (fun i hi => .inr (by have := (ownsRow_ge HO3.out hi.symm).1; have := HS1.out; omega))
        clear hown' hgrow
        have HF4 := Lib.hid f4
        clear f4
        go_wp2
        go_roundw
        case rel => exact ⟨k + 1, by go_num, by omega, HO4.out, HF4.out⟩
        case measure => simp [intOf]; omega
    · have e : k = l.length := by omega
      subst e
      have hown2 : wr.ownsRow (w.heap.size + 1) 9 1 (.slice vA l.length vc) PS.length (strC PS) := by
        have h := HO.out
        rw [List.take_of_length_le (by rw [HPL.out]; exact Nat.le_refl _)] at h
        rw [HPL.out]; exact h
      have HO2 := Lib.hid hown2
      clear hown2
      go_wp2_with fail
      refine (join_c _ _ PS _ HO2.out HLEN.out (by rw [HPL.out]; exact hl)).mono ?_
      rintro e w5 ⟨rfl, f5⟩
      have hle := HLEN.out
      obtain ⟨JJ, hJJ⟩ : ∃ JJ, Lib.join PS [44] = JJ := ⟨_, rfl⟩
      rw [hJJ] at hle ⊢
      have HJJ := Lib.hid hJJ
      have hs1 : (bs JJ).size ≤ 1000000000 := by rw [bs_size]; exact hle
      have hcat : ⟨#[91]⟩ ++ bs JJ ++ ⟨#[93]⟩ = bs (91 :: (JJ ++ [93])) := by
        rw [show (⟨#[91]⟩ : ByteArray) = bs [91] from rfl, show (⟨#[93]⟩ : ByteArray) = bs [93] from rfl, bs_append, bs_append]; rfl
      have HF5 := Lib.hid (HF.out.trans f5)
      have hb0' := f5.cell hb0 id
      clear hle hJJ f5 hb0 hb4
      go_wp2
      go_ret
      exact ⟨by rw [HJJ.out]; rfl, HF1.out.trans HF5.out⟩
end Go.Proofs.YtakgcaehkphepaaGreatDoor

/- json.text; json.Print; json.Get. -/
namespace Go.Proofs.YtakgcaehkphepaaGreatDoor
open Go.RowKit
set_option linter.unusedVariables false
set_option linter.unusedSimpArgs false

theorem Fr.grow {w : World} (os : Array Obj) : Fr none' w (Go.Sort.grow w os) :=
  ⟨rfl, rfl, rfl, by simp [Go.Sort.grow], fun k hk _ => by simp [Go.Sort.grow, Array.getElem?_append, hk]⟩
theorem formatInt_c (p : Value) (n : Int) (h0 : -9223372036854775808 ≤ n) (h1 : n ≤ 9223372036854775807) (w : World) (g : Gl p w) :
    Calls Tryz.prog 59 #[.int .i64 n, .int .i64 10] w fun e w' => e = .returned (.string (bs (Lib.itoa n))) ∧ Fr none' w w' := by
  refine (Tryz.strconv_FormatInt_10 n h0 h1 w g.pow).mono ?_
  rintro e w' ⟨rfl, k, os, rfl⟩
  exact ⟨rfl, ((Fr.refl none' w).drewN k).trans (Fr.grow os)⟩
theorem formatBool_c (b : Bool) (w : World) : Calls Tryz.prog 58 #[.bool b] w fun e w' => e = .returned (.string (bs (if b then sTrue else sFalse))) ∧ w' = w := by
  refine (Tryz.strconv_FormatBool b w).mono ?_
  rintro e w' ⟨rfl, rfl⟩
  cases b <;> exact ⟨rfl, rfl⟩

set_option maxHeartbeats 2000000 in
set_option maxRecDepth 100000 in
theorem jtext0 (p : Value) (yes : Bool) (n : Int) (s : Bs) (kA lA : Option Addr) (kn kc ln lc : Nat) (w : World) (g : Gl p w) :
    Calls Tryz.prog 34 #[.agg #[.int .i64 0, .bool yes, .int .i64 n, .string (bs s), .slice kA kn kc, .slice lA ln lc]] w fun e w' => e = .returned (.string (bs (sNull))) ∧ Fr none' w w' := by
  have F1 := (Fr.refl none' w).alloc (.cells #[.int .i64 0, .bool yes, .int .i64 n, .string (bs s), .slice kA kn kc, .slice lA ln lc] 26 (0, 0))
  have HG := Lib.hid (g.fr0 F1)
  have HF := Lib.hid F1
  clear F1 g
  go_enter Tryz.func34, Tryz.ntmps34
  go_wp2
  go_ret
  exact ⟨rfl, HF.out⟩

set_option maxHeartbeats 2000000 in
set_option maxRecDepth 100000 in
theorem jtext1 (p : Value) (T : Bs) (yes : Bool) (hT : (if yes then sTrue else sFalse) = T) (n : Int) (s : Bs) (kA lA : Option Addr) (kn kc ln lc : Nat) (w : World) (g : Gl p w) :
    Calls Tryz.prog 34 #[.agg #[.int .i64 1, .bool yes, .int .i64 n, .string (bs s), .slice kA kn kc, .slice lA ln lc]] w fun e w' => e = .returned (.string (bs T)) ∧ Fr none' w w' := by
  have F1 := (Fr.refl none' w).alloc (.cells #[.int .i64 1, .bool yes, .int .i64 n, .string (bs s), .slice kA kn kc, .slice lA ln lc] 26 (0, 0))
  have HG := Lib.hid (g.fr0 F1)
  have HF := Lib.hid F1
  have HT := Lib.hid hT
  clear F1 g hT
  go_enter Tryz.func34, Tryz.ntmps34
  go_wp2_with fail
  refine (formatBool_c yes _).mono ?_
  rw [HT.out]
  rintro e w2 ⟨rfl, rfl⟩
  go_wp2
  go_ret
  exact ⟨rfl, HF.out⟩

set_option maxHeartbeats 2000000 in
set_option maxRecDepth 100000 in
theorem jtext2 (p : Value) (n : Int) (yes : Bool) (s : Bs) (h0 : -9223372036854775808 ≤ n) (h1 : n ≤ 9223372036854775807) (kA lA : Option Addr) (kn kc ln lc : Nat) (w : World) (g : Gl p w) :
    Calls Tryz.prog 34 #[.agg #[.int .i64 2, .bool yes, .int .i64 n, .string (bs s), .slice kA kn kc, .slice lA ln lc]] w fun e w' => e = .returned (.string (bs (Lib.itoa n))) ∧ Fr none' w w' := by
  have F1 := (Fr.refl none' w).alloc (.cells #[.int .i64 2, .bool yes, .int .i64 n, .string (bs s), .slice kA kn kc, .slice lA ln lc] 26 (0, 0))
  have HG := Lib.hid (g.fr0 F1)
  have HF := Lib.hid F1
  clear F1 g
  go_enter Tryz.func34, Tryz.ntmps34
  go_wp2_with fail
  refine (formatInt_c p n h0 h1 _ HG.out).mono ?_
  rintro e w2 ⟨rfl, f2⟩
  go_wp2
  go_ret
  exact ⟨rfl, HF.out.trans f2⟩

set_option maxHeartbeats 2000000 in
set_option maxRecDepth 100000 in
theorem jtext3 (p : Value) (n : Int) (yes : Bool) (s : Bs) (hv : Lib.validD s = true) (hN : s.length ≤ 1000000000) (kA lA : Option Addr) (kn kc ln lc : Nat) (w : World) (g : Gl p w) :
    Calls Tryz.prog 34 #[.agg #[.int .i64 3, .bool yes, .int .i64 n, .string (bs s), .slice kA kn kc, .slice lA ln lc]] w fun e w' => e = .returned (.string (bs (quoteB s))) ∧ Fr none' w w' := by
  have F1 := (Fr.refl none' w).alloc (.cells #[.int .i64 3, .bool yes, .int .i64 n, .string (bs s), .slice kA kn kc, .slice lA ln lc] 26 (0, 0))
  have HG := Lib.hid (g.fr0 F1)
  have HF := Lib.hid F1
  clear F1 g
  have HV := Lib.hid hv
  clear hv
  go_enter Tryz.func34, Tryz.ntmps34
  go_wp2_with fail
  refine (quoted_c s HV.out hN _).mono ?_
  rintro e w2 ⟨rfl, f2⟩
  go_wp2
  go_ret
  exact ⟨rfl, HF.out.trans f2⟩

set_option maxHeartbeats 2000000 in
set_option maxRecDepth 100000 in
theorem jtext4 (p : Value) (keys : List Bs) (l : List J) (T : Bs) (hG : ∀ (ok : Nat → Prop) (kv lv : Value) (w : World), Gl p w → JAt w ok (emptyJ 4 keys l) kv lv →
      Calls Tryz.prog 60 #[jVal (emptyJ 4 keys l) kv lv] w fun e w' => e = .returned (.string (bs T)) ∧ Fr none' w w')
    (ok : Nat → Prop) (kv lv : Value) (w : World) (g : Gl p w) (hj : JAt w ok (emptyJ 4 keys l) kv lv) :
    Calls Tryz.prog 34 #[jVal (emptyJ 4 keys l) kv lv] w fun e w' => e = .returned (.string (bs T)) ∧ Fr none' w w' := by
  obtain ⟨kA, kn, kc, lA, ln, lc, rfl, rfl⟩ := hj.form
  have F1 := (Fr.refl none' w).alloc (.cells #[.int .i64 4, .bool false, .int .i64 0, .string (bs []), .slice kA kn kc, .slice lA ln lc] 26 (0, 0))
  have HC := Lib.hid (hG ok _ _ _ (g.fr0 F1) (hj.fr F1 (fun _ _ => id)))
  have HF := Lib.hid F1
  clear F1 g hj hG
  simp only [emptyJ, jVal, J.kind, J.yes, J.n, J.s] at HC ⊢
  go_enter Tryz.func34, Tryz.ntmps34
  go_wp2_with fail
  refine HC.out.mono ?_
  rintro e w2 ⟨rfl, f2⟩
  go_wp2
  go_ret
  exact ⟨rfl, HF.out.trans f2⟩

set_option maxHeartbeats 2000000 in
set_option maxRecDepth 100000 in
theorem jtext5 (p : Value) (keys : List Bs) (l : List J) (T : Bs) (hG : ∀ (ok : Nat → Prop) (kv lv : Value) (w : World), Gl p w → JAt w ok (emptyJ 5 keys l) kv lv →
      Calls Tryz.prog 60 #[jVal (emptyJ 5 keys l) kv lv] w fun e w' => e = .returned (.string (bs T)) ∧ Fr none' w w')
    (ok : Nat → Prop) (kv lv : Value) (w : World) (g : Gl p w) (hj : JAt w ok (emptyJ 5 keys l) kv lv) :
    Calls Tryz.prog 34 #[jVal (emptyJ 5 keys l) kv lv] w fun e w' => e = .returned (.string (bs T)) ∧ Fr none' w w' := by
  obtain ⟨kA, kn, kc, lA, ln, lc, rfl, rfl⟩ := hj.form
  have F1 := (Fr.refl none' w).alloc (.cells #[.int .i64 5, .bool false, .int .i64 0, .string (bs []), .slice kA kn kc, .slice lA ln lc] 26 (0, 0))
  have HC := Lib.hid (hG ok _ _ _ (g.fr0 F1) (hj.fr F1 (fun _ _ => id)))
  have HF := Lib.hid F1
  clear F1 g hj hG
  simp only [emptyJ, jVal, J.kind, J.yes, J.n, J.s] at HC ⊢
  go_enter Tryz.func34, Tryz.ntmps34
  go_wp2_with fail
  refine HC.out.mono ?_
  rintro e w2 ⟨rfl, f2⟩
  go_wp2
  go_ret
  exact ⟨rfl, HF.out.trans f2⟩

theorem qb_ge (c : UInt8) : 1 ≤ (qb c).length := by
  unfold qb
  split
  · simp
  · split <;> simp
theorem qs_ge : ∀ s : Bs, s.length ≤ (qs s).length
  | [] => Nat.le_refl _
  | c :: r => by
    have h1 := qb_ge c
    have h2 := qs_ge r
    rw [qs_cons, List.length_append, List.length_cons]; omega
theorem quote_ge (s : Bs) : s.length ≤ (quoteB s).length := by
  have := qs_ge s
  unfold quoteB
  rw [List.length_cons, List.length_append]; omega
theorem join_ge : ∀ ps : List Bs, (∀ x ∈ ps, 1 ≤ x.length) → ps.length ≤ (Lib.join ps [44]).length
  | [], _ => Nat.le_refl _
  | [a], h => by rw [Lib.join_one]; exact h a (by simp)
  | a :: b :: r, h => by
    have := join_ge (b :: r) (fun x hx => h x (by simp only [List.mem_cons] at hx ⊢; exact .inr hx))
    have h1 := h a (by simp)
    rw [join_cons2, List.length_append, List.length_append, List.length_cons]
    omega
theorem parts_ne (kind : Int) (keys : List Bs) (l : List J) (hk : kind = 5 → keys.length = l.length) : ∀ x ∈ partsM kind keys l, 1 ≤ x.length := by
  intro x hx
  obtain ⟨i, hi⟩ := List.getElem?_of_mem hx
  have hlt := (List.getElem?_eq_some_iff.1 hi).1
  by_cases h5 : kind = 5
  · subst h5
    have hn : (partsM 5 keys l).length = l.length := by unfold partsM pairsM; rw [if_pos rfl]; simp [hk rfl]
    have hkk := hk rfl
    have := parts5 keys l i _ _ (List.getElem?_eq_getElem (by omega)) (List.getElem?_eq_getElem (by omega))
    rw [hi] at this
    injection this with this
    rw [this, List.length_append, List.length_cons]; omega
  · unfold partsM at hi hlt
    rw [if_neg h5] at hi hlt
    rw [List.length_map] at hlt
    rw [List.getElem?_map, List.getElem?_eq_getElem hlt] at hi
    injection hi with hi
    obtain ⟨c, r, e, _⟩ := text_head l[i]
    rw [← hi, e]; simp
theorem keysB_valid : ∀ (ks pre : List Bs), keysB pre ks = true → ∀ k ∈ ks, Lib.validD k = true
  | [], _, _, k, hk => by cases hk
  | a :: r, pre, h, k, hk => by
    rw [keysB, Bool.and_eq_true, Bool.and_eq_true] at h
    rcases List.mem_cons.1 hk with rfl | hk
    · exact h.1.1
    · exact keysB_valid r _ h.2 k hk

theorem leafText (p : Value) (j : J) (hr : leafR j = true) (hn : numOk j = true) (hs : (textM j).length ≤ 1000000000) : TextOk p j := by
  obtain ⟨kind, yes, n, s, keys, l⟩ := j
  intro ok kv lv w g hj
  obtain ⟨kA, kn, kc, lA, ln, lc, rfl, rfl⟩ := hj.form
  rw [leafR_mk] at hr
  rw [numOk, Bool.and_eq_true, Bool.and_eq_true, decide_eq_true_eq, decide_eq_true_eq] at hn
  rw [textM] at hs ⊢
  simp only [jVal, J.kind, J.yes, J.n, J.s]
  by_cases h0 : kind = 0
  · subst h0; exact jtext0 p yes n s kA lA kn kc ln lc w g
  by_cases h1 : kind = 1
  · subst h1; exact jtext1 p _ yes rfl n s kA lA kn kc ln lc w g
  by_cases h2 : kind = 2
  · subst h2; exact jtext2 p n yes s hn.1.1 hn.1.2 kA lA kn kc ln lc w g
  by_cases h3 : kind = 3
  · subst h3
    have hv : Lib.validD s = true := by
      rw [if_neg (by decide), if_neg (by decide), if_neg (by decide), if_pos rfl, Bool.and_eq_true] at hr
      exact hr.2
    have hl : s.length ≤ 1000000000 := by
      rw [if_neg (by decide), if_neg (by decide), if_pos rfl] at hs
      have := quote_ge s
      omega
    exact jtext3 p n yes s hv hl kA lA kn kc ln lc w g
  · rw [if_neg h0, if_neg h1, if_neg h2, if_neg h3] at hr; cases hr
/-- json.text at a right value. -/
theorem jtext_ok (p : Value) : ∀ (k : Nat) (j : J), rightM k j = true → numOk j = true → (textM j).length ≤ 1000000000 → TextOk p j
  | 0, j, hr, hn, hs => leafText p j hr hn hs
  | k + 1, .mk kind yes n s keys l, hr, hn, hs => by
    have hr' := hr
    rw [rightM_mk] at hr'
    by_cases h4 : kind = 4
    · subst h4
      rw [if_pos rfl, Bool.and_eq_true, Bool.and_eq_true] at hr'
      obtain ⟨⟨hb, hk⟩, ha⟩ := hr'
      obtain rfl := eq_nil hk
      rw [bare_mk (kind := 4) hb] at hn hs ⊢
      have ht : textM (emptyJ 4 [] l) = 91 :: (Lib.join (partsM 4 [] l) [44] ++ [93]) := by
        unfold emptyJ partsM; rw [textM, textsM_map, if_neg (by decide), if_neg (by decide), if_neg (by decide), if_pos rfl, if_neg (by decide)]
      rw [ht] at hs
      simp only [List.length_cons, List.length_append, List.length_nil] at hs
      unfold emptyJ at hn
      rw [numOk, Bool.and_eq_true, numsOk_all] at hn
      have hpl := join_ge (partsM 4 [] l)
      have hpn : (partsM 4 [] l).length = l.length := by unfold partsM; rw [if_neg (by decide)]; simp
      have hne := parts_ne 4 [] l (fun h => absurd h (by decide))
      have hx : ∀ x ∈ l, TextOk p x := by
        intro x hx
        refine jtext_ok p k x (List.all_eq_true.1 ha x hx) (List.all_eq_true.1 hn.2 x hx) ?_
        obtain ⟨i, hi⟩ := List.getElem?_of_mem hx
        have := part_len _ i _ (parts4 [] l i x hi)
        omega
      intro ok kv lv w g hj
      rw [ht]
      exact jtext4 p [] l _ (fun ok kv lv w g hj => group4_c p [] l hx (by omega) (by have := hpl hne; omega) ok kv lv w g hj) ok kv lv w g hj
    rw [if_neg h4] at hr'
    by_cases h5 : kind = 5
    · subst h5
      rw [if_pos rfl, Bool.and_eq_true, Bool.and_eq_true, Bool.and_eq_true, decide_eq_true_eq] at hr'
      obtain ⟨⟨⟨hb, hk⟩, hkb⟩, ha⟩ := hr'
      rw [bare_mk (kind := 5) hb] at hn hs ⊢
      have ht : textM (emptyJ 5 keys l) = 123 :: (Lib.join (partsM 5 keys l) [44] ++ [125]) := by
        unfold emptyJ partsM; rw [textM, textsM_map, if_neg (by decide), if_neg (by decide), if_neg (by decide), if_neg (by decide), if_pos rfl, if_pos rfl]
      rw [ht] at hs
      simp only [List.length_cons, List.length_append, List.length_nil] at hs
      unfold emptyJ at hn
      rw [numOk, Bool.and_eq_true, numsOk_all] at hn
      have hpl := join_ge (partsM 5 keys l)
      have hpn : (partsM 5 keys l).length = l.length := by unfold partsM pairsM; rw [if_pos rfl]; simp [hk]
      have hne := parts_ne 5 keys l (fun _ => hk)
      have hx : ∀ x ∈ l, TextOk p x := by
        intro x hx
        refine jtext_ok p k x (List.all_eq_true.1 ha x hx) (List.all_eq_true.1 hn.2 x hx) ?_
        obtain ⟨i, hi⟩ := List.getElem?_of_mem hx
        have hil := (List.getElem?_eq_some_iff.1 hi).1
        have := part_len _ i _ (parts5 keys l i x _ hi (List.getElem?_eq_getElem (by omega)))
        rw [List.length_append, List.length_cons] at this
        omega
      have hkv : ∀ k ∈ keys, Lib.validD k = true ∧ k.length ≤ 1000000000 := by
        intro y hy
        obtain ⟨i, hi⟩ := List.getElem?_of_mem hy
        have hil := (List.getElem?_eq_some_iff.1 hi).1
        have := part_len _ i _ (parts5 keys l i _ y (List.getElem?_eq_getElem (by omega)) hi)
        rw [List.length_append, List.length_cons] at this
        have h2 := quote_ge y
        exact ⟨keysB_valid keys [] hkb y hy, by omega⟩
      intro ok kv lv w g hj
      rw [ht]
      exact jtext5 p keys l _ (fun ok kv lv w g hj => group5_c p keys l hx (by omega) (by have := hpl hne; omega) hk hkv ok kv lv w g hj) ok kv lv w g hj
    · rw [if_neg h5] at hr'
      exact leafText p _ hr' hn hs
end Go.Proofs.YtakgcaehkphepaaGreatDoor
