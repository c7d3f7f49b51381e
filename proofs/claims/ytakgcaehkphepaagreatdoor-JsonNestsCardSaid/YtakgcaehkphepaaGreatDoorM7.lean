/- json.Print, json.Get. -/
import Derived.Test.YtakgcaehkphepaaGreatDoorM6
namespace Go.Proofs.YtakgcaehkphepaaGreatDoor
open Go.RowKit
set_option linter.unusedVariables false
set_option linter.unusedSimpArgs false

set_option maxHeartbeats 2000000 in
set_option maxRecDepth 100000 in
theorem print_c (p : Value) (ok : Nat → Prop) (j : J) (kv lv : Value) (w : World) (g : Gl p w) (hj : JAt w ok j kv lv) (hz : JSz 1000000000 j) (hn : numOk j = true) (ht : (textM j).length ≤ 1000000000) :
    Calls Tryz.prog 17 #[jVal j kv lv] w fun e w' => e = .returned (.tuple #[.string (bs (printM j).1), .int .i64 (printM j).2]) ∧ Fr none' w w' := by
  obtain ⟨kA, kn, kc, lA, ln, lc, rfl, rfl⟩ := hj.form
  have F1 : Fr none' w (w.alloc (.cells #[.int .i64 j.kind, .bool j.yes, .int .i64 j.n, .string (bs j.s), .slice kA kn kc, .slice lA ln lc] 26)) := (Fr.refl _ _).alloc _
  have HG := Lib.hid (g.fr0 F1)
  have HJ := Lib.hid (hj.fr F1 (fun _ _ => id))
  have HF := Lib.hid F1
  have HB := Lib.hid (B26.new w (.int .i64 j.kind) (.bool j.yes) (.int .i64 j.n) (.string (bs j.s)) (.slice kA kn kc) (.slice lA ln lc))
  clear F1 g hj
  have hp : printM j = if rightM 64 j then (textM j, 0) else ([], 150) := rfl
  obtain ⟨PM, hPM⟩ : ∃ PM, printM j = PM := ⟨_, rfl⟩
  rw [hPM] at hp ⊢
  have HP := Lib.hid hp
  clear hp hPM
  have HZ := Lib.hid hz
  have HN := Lib.hid hn
  have HT := Lib.hid ht
  clear hz hn ht
  unfold jVal
  go_enter Tryz.func17, Tryz.ntmps17
  go_wp2_with fail
  refine (right_c p ok j _ _ _ HG.out HJ.out HZ.out).mono ?_
  rintro e w2 ⟨rfl, f2⟩
  have hp := HP.out
  cases hr : rightM 64 j with
  | false =>
    rw [hr, if_neg (by decide)] at hp
    have HP2 := Lib.hid hp
    have G2 := HG.out.fr0 f2
    have ej := G2.ej
    have HG2 := Lib.hid G2
    have HF2 := Lib.hid (HF.out.trans f2)
    clear hp hr f2 G2
    go_wp2_with fail
    refine (told_miss p _ HG2.out.et).mono ?_
    rintro e w3 ⟨rfl, f3⟩
    go_wp2
    go_ret2
    exact ⟨by rw [HP2.out]; rfl, HF2.out.trans f3⟩
  | true =>
    rw [hr, if_pos rfl] at hp
    have HP2 := Lib.hid hp
    have HR := Lib.hid hr
    have hb := HB.out.fr f2 id
    have b0 := hb.c0
    have b1 := hb.c1
    have b2 := hb.c2
    have b3 := hb.c3
    have b4 := hb.c4
    have b5 := hb.c5
    have HG2 := Lib.hid (HG.out.fr0 f2)
    have HJ2 := Lib.hid (HJ.out.fr f2 (fun _ _ => id))
    have HF2 := Lib.hid (HF.out.trans f2)
    clear hp hr f2 hb
    go_wp2_with fail
    refine (jtext_ok p 64 j HR.out HN.out HT.out ok _ _ _ HG2.out HJ2.out).mono ?_
    rintro e w3 ⟨rfl, f3⟩
    go_wp2
    go_ret2
    exact ⟨by rw [HP2.out]; rfl, HF2.out.trans f3⟩

/-! ### json.Get -/
def keyIdx (ks : List Bs) (t : Bs) : Int := match ks.findIdx? (· = t) with
  | some i => (i : Int)
  | none => -1
theorem idxFrom_key (t : Bs) : ∀ (ks : List Bs) (i : Nat), Lib.idxFromS (ks.map bs) (bs t) i = (match ks.findIdx? (· = t) with | some k => ((i + k : Nat) : Int) | none => -1)
  | [], i => rfl
  | k :: r, i => by
    rw [List.map_cons, Lib.idxFromS, idxFrom_key t r (i + 1), List.findIdx?_cons]
    by_cases h : k = t
    · subst h; simp
    · have hb : ¬ bs k = bs t := fun e => h (bs_inj e)
      rw [if_neg hb, decide_eq_false h]
      simp only [Bool.false_eq_true, if_false]
      cases r.findIdx? (· = t) with
      | none => rfl
      | some a => simp only [Option.map_some]; congr 1; omega
theorem index_c (v : Value) (ks : List Bs) (t : Bs) (w : World) (h : StrsAt w v ks) (hn : ks.length ≤ 1000000000) :
    Calls Tryz.prog 36 #[v, .string (bs t)] w fun e w' => e = .returned (.int .i64 (keyIdx ks t)) ∧ w' = w := by
  rcases h with ⟨rfl, rfl⟩ | ⟨b, cap, rfl, hcap, hc⟩
  · exact Tryz.slices_Index_string_empty none 0 (bs t) w
  · refine (Tryz.slices_Index_string b 0 ks.length cap (ks.map bs) (bs t) w (by simp) (by omega) ?_).mono ?_
    · intro j hj
      rw [List.length_map] at hj
      rw [Nat.zero_add, hc j ks[j] (List.getElem?_eq_getElem hj)]
      simp [List.getD_eq_getElem?_getD, hj]
    · rintro e w' ⟨rfl, rfl⟩
      refine ⟨?_, rfl⟩
      rw [List.take_of_length_le (by simp)]
      congr 2
      have := idxFrom_key t ks 0
      unfold Lib.idxOfS keyIdx
      rw [this]
      cases ks.findIdx? (· = t) <;> simp
/-- What json.Get hands back. -/
def GetIs (w : World) (ok : Nat → Prop) (o : Option J) (e : Ending) : Prop := match o with
  | some x => ∃ kv lv, e = .returned (.tuple #[jVal x kv lv, .bool true]) ∧ JAt w ok x kv lv
  | none => e = .returned (.tuple #[.agg #[.int .i64 0, .bool false, .int .i64 0, .string ⟨#[]⟩, .slice none 0 0, .slice none 0 0], .bool false])

set_option maxHeartbeats 4000000 in
set_option maxRecDepth 100000 in
theorem get_c (p : Value) (ok : Nat → Prop) (j : J) (t : Bs) (kv lv : Value) (w : World) (g : Gl p w) (hj : JAt w ok j kv lv) (hz : JSz 1000000000 j) :
    Calls Tryz.prog 19 #[jVal j kv lv, .string (bs t)] w fun e w' => GetIs w' ok (getM j t) e ∧ Fr none' w w' := by
  obtain ⟨kind, yes, n, s, keys, l⟩ := j
  obtain ⟨hs, hk, hkk, hl, hx⟩ := hz
  have hj' := hj.mono (ok' := fun k => ok k ∧ k < w.heap.size) (fun k h h' => ⟨h, h'⟩)
  have hst := hj.strs
  have hit := hj'.items
  clear hj'
  simp only [J.keys, J.l] at hst hit
  have hkv : ∃ A c, kv = .slice A keys.length c := by rcases hst with ⟨rfl, rfl⟩ | ⟨g, cap, rfl, _⟩ <;> exact ⟨_, _, rfl⟩
  have hlv : ∃ A c, lv = .slice A l.length c := by rcases hit with ⟨rfl, rfl⟩ | ⟨g, cap, rfl, _⟩ <;> exact ⟨_, _, rfl⟩
  obtain ⟨kA, kc, rfl⟩ := hkv
  obtain ⟨lA, lc, rfl⟩ := hlv
  obtain ⟨GM, hGM⟩ : ∃ GM, getM (.mk kind yes n s keys l) t = GM := ⟨_, rfl⟩
  rw [hGM]
  simp only [jVal, J.kind, J.n, J.s, J.yes]
  have W2 : Fr none' w ((w.alloc (.cells #[.int .i64 kind, .bool yes, .int .i64 n, .string (bs s), .slice kA keys.length kc, .slice lA l.length lc] 26)).alloc (.cells #[.int .i64 0, .bool false, .int .i64 0, .string ⟨#[]⟩, .slice none 0 0, .slice none 0 0] 26)) := ((Fr.refl _ _).alloc _).alloc _
  have B2 : B26 ((w.alloc (.cells #[.int .i64 kind, .bool yes, .int .i64 n, .string (bs s), .slice kA keys.length kc, .slice lA l.length lc] 26)).alloc (.cells #[.int .i64 0, .bool false, .int .i64 0, .string ⟨#[]⟩, .slice none 0 0, .slice none 0 0] 26)) w.heap.size _ _ _ _ _ _ := alloc_old (alloc_new w _) _
  have N2 : B26 ((w.alloc (.cells #[.int .i64 kind, .bool yes, .int .i64 n, .string (bs s), .slice kA keys.length kc, .slice lA l.length lc] 26)).alloc (.cells #[.int .i64 0, .bool false, .int .i64 0, .string ⟨#[]⟩, .slice none 0 0, .slice none 0 0] 26)) (w.heap.size + 1) (.int .i64 0) (.bool false) (.int .i64 0) (.string ⟨#[]⟩) (.slice none 0 0) (.slice none 0 0) := alloc_at _ (by simp)
  have HW2 := Lib.hid W2
  have HB2 := Lib.hid B2
  have HN2 := Lib.hid N2
  have HGM := Lib.hid hGM
  have HST := Lib.hid (hst.fr W2)
  have HIT := Lib.hid (hit.fr W2)
  clear W2 B2 N2 hGM hst hit hj g
  go_enter Tryz.func19, Tryz.ntmps19
  go_upto_region 1 with (fail)
  obtain ⟨w2, hw2⟩ : ∃ w2, ((w.alloc (.cells #[.int .i64 kind, .bool yes, .int .i64 n, .string (bs s), .slice kA keys.length kc, .slice lA l.length lc] 26)).alloc (.cells #[.int .i64 0, .bool false, .int .i64 0, .string ⟨#[]⟩, .slice none 0 0, .slice none 0 0] 26)) = w2 := ⟨_, rfl⟩
  rw [hw2] at HW2 HB2 HN2 HST HIT ⊢
  clear hw2
  have b0 := HB2.out.c0
  have b1 := HB2.out.c1
  have b2 := HB2.out.c2
  have b3 := HB2.out.c3
  have b4 := HB2.out.c4
  have b5 := HB2.out.c5
  have z0 := HN2.out.fz 0
  have z1 := HN2.out.fz 1
  have z2 := HN2.out.fz 2
  have z3 := HN2.out.fz 3
  have z4 := HN2.out.fz 4
  have z5 := HN2.out.fz 5
  have n0 := HN2.out.c0
  have n1 := HN2.out.c1
  have n2 := HN2.out.c2
  have n3 := HN2.out.c3
  have n4 := HN2.out.c4
  have n5 := HN2.out.c5
  go_wp2_with fail
  refine (index_c _ keys t _ HST.out hk).mono ?_
  rintro e w3 ⟨rfl, rfl⟩
  obtain ⟨i, hi⟩ : ∃ i, keyIdx keys t = i := ⟨_, rfl⟩
  rw [hi]
  have HI := Lib.hid hi
  clear hi
  by_cases h5 : kind = 5
  · subst h5
    by_cases h0 : 0 ≤ i
    · obtain ⟨q, rfl⟩ := Int.eq_ofNat_of_zero_le h0
      have hq : keys.findIdx? (· = t) = some q := by
        have := HI.out
        unfold keyIdx at this
        split at this
        · rename_i a ha; rw [ha]; congr 1; omega
        · omega
      by_cases hlt : q < l.length
      · obtain ⟨x, hx'⟩ : ∃ x, l[q]? = some x := ⟨_, List.getElem?_eq_getElem hlt⟩
        have HE := Lib.hid (show some x = GM from by rw [← HGM.out]; unfold getM; simp only [J.kind, J.keys, J.l, if_true, hq, Option.bind_some, hx'])
        have hit := HIT.out
        rcases hit with ⟨_, rfl⟩ | ⟨gb, cap, he, hcap, hmax, hc⟩
        · simp at hlt
        injection he with e1 e2 e3
        subst e1; subst e3
        obtain ⟨kv', lv', hjx, hcx⟩ := hc q x hx'
        have c0 := hcx.c0
        have c1 := hcx.c1
        have c2 := hcx.c2
        have c3 := hcx.c3
        have c4 := hcx.c4
        have c5 := hcx.c5
        have HJ := Lib.hid hjx
        obtain ⟨xA, xn, xc, yA, yn, yc, rfl, rfl⟩ := hjx.form
        clear hjx hcx hc hx' hq h0 e2
        go_wp2
        refine put_elim HN2.out ?_
        intro w4 hb4 f4
        go_wp2
        refine bodyPost_ret (ret26' rfl rfl hb4) rfl ?_
        have F4 := HW2.out.call f4 (fun i hi => .inr (by omega))
        rw [← HE.out]
        exact ⟨⟨_, _, rfl, (HJ.out.fr f4 (fun k hk e => by have := hk.2; omega)).mono (fun k hk _ => hk.1)⟩, F4⟩
      · have HE := Lib.hid (show none = GM from by rw [← HGM.out]; unfold getM; simp only [J.kind, J.keys, J.l, if_true, hq, Option.bind_some]; exact (List.getElem?_eq_none (by omega)).symm)
        clear hq h0
        go_wp2
        refine put_elim HN2.out ?_
        intro w4 hb4 f4
        go_wp2
        refine bodyPost_ret (ret26' rfl rfl hb4) rfl ?_
        rw [← HE.out]
        exact ⟨rfl, HW2.out.call f4 (fun i hi => .inr (by omega))⟩
    · have HE := Lib.hid (show none = GM from by
        have := HI.out
        unfold keyIdx at this
        split at this
        · omega
        · rename_i ha
          rw [← HGM.out]; unfold getM; simp only [J.kind, J.keys, J.l, if_true, ha, Option.bind_none])
      have hb0 : decide (0 ≤ i) = false := decide_eq_false h0
      clear h0
      go_wp2
      refine put_elim HN2.out ?_
      intro w4 hb4 f4
      go_wp2
      refine bodyPost_ret (ret26' rfl rfl hb4) rfl ?_
      rw [← HE.out]
      exact ⟨rfl, HW2.out.call f4 (fun i hi => .inr (by omega))⟩
  · have HE := Lib.hid (show none = GM from by rw [← HGM.out]; unfold getM; rw [if_neg (show ¬ (J.mk kind yes n s keys l).kind = 5 from h5)])
    have hb5 : (kind == 5) = false := by simpa using h5
    clear h5
    go_wp2
    refine put_elim HN2.out ?_
    intro w4 hb4 f4
    go_wp2
    refine bodyPost_ret (ret26' rfl rfl hb4) rfl ?_
    rw [← HE.out]
    exact ⟨rfl, HW2.out.call f4 (fun i hi => .inr (by omega))⟩
end Go.Proofs.YtakgcaehkphepaaGreatDoor

/- slices.Equal, slices.EqualFunc, json.Same. -/
namespace Go.Proofs.YtakgcaehkphepaaGreatDoor
open Go.RowKit
set_option linter.unusedVariables false
set_option linter.unusedSimpArgs false

theorem map_bs_inj : ∀ {a b : List Bs}, a.map bs = b.map bs → a = b
  | [], [], _ => rfl
  | [], _ :: _, h => by simp at h
  | _ :: _, [], h => by simp at h
  | x :: a, y :: b, h => by
    simp only [List.map_cons, List.cons.injEq] at h
    rw [bs_inj h.1, map_bs_inj h.2]
theorem strEq_c (v v' : Value) (ks ks' : List Bs) (w : World) (h : StrsAt w v ks) (h' : StrsAt w v' ks') (hn : ks.length ≤ 1000000000) (hn' : ks'.length ≤ 1000000000) :
    Calls Tryz.prog 43 #[v, v'] w fun e w' => e = .returned (.bool (decide (ks = ks'))) ∧ Fr none' w w' := by
  have hlen : ∀ (A A' : Option Addr) (n c n' c' : Nat), v = .slice A n c → v' = .slice A' n' c' → n ≠ n' → ks.length = n → ks'.length = n' → Calls Tryz.prog 43 #[v, v'] w fun e w' => e = .returned (.bool (decide (ks = ks'))) ∧ Fr none' w w' := by
    rintro A A' n c n' c' rfl rfl hne h1 h2
    refine (Tryz.slices_Equal_string_lens A A' n c n' c' w hne).mono ?_
    rintro e w' ⟨rfl, rfl⟩
    exact ⟨ret_bool (decide_eq_false (fun e => hne (by rw [← h1, ← h2, e]))).symm, Fr.refl _ _⟩
  rcases h with ⟨rfl, rfl⟩ | ⟨b, cap, rfl, hcap, hc⟩
  · rcases h' with ⟨rfl, rfl⟩ | ⟨b', cap', rfl, hcap', hc'⟩
    · refine (Tryz.slices_Equal_string_empty none none 0 0 0 w (by decide)).mono ?_
      rintro e w' ⟨rfl, rfl⟩
      exact ⟨rfl, Fr.refl _ _⟩
    · refine (Tryz.slices_Equal_string_empty none _ 0 ks'.length cap' w (by omega)).mono ?_
      rintro e w' ⟨rfl, rfl⟩
      refine ⟨ret_bool ?_, Fr.refl _ _⟩
      cases ks' <;> simp
  · rcases h' with ⟨rfl, rfl⟩ | ⟨b', cap', rfl, hcap', hc'⟩
    · by_cases h0 : ks.length = 0
      · obtain rfl := List.length_eq_zero_iff.1 h0
        refine (Tryz.slices_Equal_string_empty _ none cap 0 0 w (by decide)).mono ?_
        rintro e w' ⟨rfl, rfl⟩
        exact ⟨rfl, Fr.refl _ _⟩
      · exact hlen _ _ _ _ _ _ rfl rfl h0 rfl rfl
    · have get : ∀ (b : Nat) (ks : List Bs), (∀ i k, ks[i]? = some k → w.cell? ⟨b, i, none⟩ = some (.string (bs k))) → ∀ j, j < (ks.map bs).length → w.cell? ⟨b, 0 + j, none⟩ = some (.string ((ks.map bs).getD j ByteArray.empty)) := by
        intro b ks hc j hj
        rw [List.length_map] at hj
        rw [Nat.zero_add, hc j ks[j] (List.getElem?_eq_getElem hj)]
        simp [List.getD_eq_getElem?_getD, hj]
      refine (Tryz.slices_Equal_string b 0 ks.length cap b' 0 ks'.length cap' (ks.map bs) (ks'.map bs) w (by simp) (by simp) (by omega) (by omega) (get b ks hc) (get b' ks' hc')).mono ?_
      rintro e w' ⟨rfl, q, rfl⟩
      refine ⟨ret_bool ?_, (Fr.refl none' w).drewN q⟩
      rw [List.take_of_length_le (by simp), List.take_of_length_le (by simp), Bool.eq_iff_iff, decide_eq_true_iff, decide_eq_true_iff]
      exact ⟨map_bs_inj, fun h => by rw [h]⟩

def SameOk (p : Value) (a : J) : Prop := ∀ (ok ok' : Nat → Prop) (b : J) (kv lv kv' lv' : Value) (w : World), Gl p w → JAt w ok a kv lv → JAt w ok' b kv' lv' → JSz 1000000000 a → JSz 1000000000 b →
  Calls Tryz.prog 26 #[jVal a kv lv, jVal b kv' lv'] w fun e w' => e = .returned (.bool (sameM a b)) ∧ Fr none' w w'
theorem samesM_len : ∀ (l m : List J), l.length ≠ m.length → samesM l m = false
  | [], [], h => absurd rfl h
  | [], _ :: _, h => rfl
  | _ :: _, [], h => rfl
  | a :: l, b :: m, h => by
    rw [samesM, samesM_len l m (by simpa using h)]; simp

set_option maxHeartbeats 1000000 in
set_option maxRecDepth 100000 in
theorem equalFunc_c (p : Value) (ok ok' : Nat → Prop) (l m : List J) (H : ∀ x ∈ l, SameOk p x) (lv mv : Value) (w : World) (g : Gl p w) (hl : ItemsAt w ok lv l) (hm : ItemsAt w ok' mv m) (hzl : ∀ x ∈ l, JSz 1000000000 x) (hzm : ∀ x ∈ m, JSz 1000000000 x) :
    Calls Tryz.prog 44 #[lv, mv, .func (.func 26) #[] #[]] w fun e w' => e = .returned (.bool (samesM l m)) ∧ Fr none' w w' := by
  have hlv : ∃ A c, lv = .slice A l.length c := by rcases hl with ⟨rfl, rfl⟩ | ⟨g, cap, rfl, _⟩ <;> exact ⟨_, _, rfl⟩
  have hmv : ∃ A c, mv = .slice A m.length c := by rcases hm with ⟨rfl, rfl⟩ | ⟨g, cap, rfl, _⟩ <;> exact ⟨_, _, rfl⟩
  by_cases hlen : l.length = m.length
  · rcases hl with ⟨rfl, rfl⟩ | ⟨gl, cl, rfl, hcl, hml, hcc⟩
    · obtain ⟨A, c, rfl⟩ := hmv
      rw [← hlen]
      have hm0 : m = [] := List.length_eq_zero_iff.1 hlen.symm
      subst hm0
      go_enter Tryz.func44, Tryz.ntmps44
      go_wp2
      go_loopw [17] (fun i wr => i = .int .i64 0 ∧ Fr none' w wr) (fun _ _ => 0)
      case atStart => exact ⟨rfl, Fr.refl _ _⟩
      case round =>
        obtain ⟨rfl, hf⟩ := hrel
        go_wp2
        go_ret
        exact ⟨rfl, hf⟩
    · rcases hm with ⟨rfl, rfl⟩ | ⟨gm, cm, rfl, hcm, hmm, hcc'⟩
      · have hl0 : l = [] := List.length_eq_zero_iff.1 hlen
        subst hl0
        go_enter Tryz.func44, Tryz.ntmps44
        go_wp2
        go_loopw [17] (fun i wr => i = .int .i64 0 ∧ Fr none' w wr) (fun _ _ => 0)
        case atStart => exact ⟨rfl, Fr.refl _ _⟩
        case round =>
          obtain ⟨rfl, hf⟩ := hrel
          go_wp2
          go_ret
          exact ⟨rfl, hf⟩
      · unfold maxLen at hml hmm
        obtain ⟨AL, hAL⟩ : ∃ AL, samesM l m = AL := ⟨_, rfl⟩
        rw [hAL]
        have HA := Lib.hid hAL
        have HC := Lib.hid hcc
        have HC' := Lib.hid hcc'
        have HG := Lib.hid g
        have HZ := Lib.hid hzl
        have HZ' := Lib.hid hzm
        have HH := Lib.hid H
        have HL := Lib.hid hlen
        clear hAL hcc hcc' g hzl hzm H hlv hmv
        rw [← hlen] at hcm ⊢
        clear hlen
        have hln : l.length ≤ 9223372036854775807 := by omega
        go_enter Tryz.func44, Tryz.ntmps44
        go_wp2
        go_loopw [17] (fun i wr => ∃ k : Nat, i = .int .i64 k ∧ k ≤ l.length ∧ Fr none' w wr ∧ samesM (l.drop k) (m.drop k) = AL) (fun i _ => l.length - (intOf i).toNat)
        case atStart => exact ⟨0, rfl, Nat.zero_le _, Fr.refl _ _, by simpa using HA.out⟩
        case round =>
          obtain ⟨k, rfl, hk, hf, hkb⟩ := hrel
          have HF := Lib.hid hf
          have HKB := Lib.hid hkb
          clear hf hkb
          by_cases hlt : k < l.length
          · obtain ⟨x, hx⟩ : ∃ x, l[k]? = some x := ⟨_, List.getElem?_eq_getElem hlt⟩
            obtain ⟨y, hy⟩ : ∃ y, m[k]? = some y := ⟨_, List.getElem?_eq_getElem (by have := HL.out; omega)⟩
            obtain ⟨kv1, lv1, hjx, hcx⟩ := HC.out k x hx
            obtain ⟨kv2, lv2, hjy, hcy⟩ := HC'.out k y hy
            have hcx' := hcx.fr HF.out
            have hcy' := hcy.fr HF.out
            have HJ := Lib.hid (hjx.fr HF.out (fun _ _ => id))
            have HJ' := Lib.hid (hjy.fr HF.out (fun _ _ => id))
            have hkb := HKB.out
            have hxm := List.mem_of_getElem? hx
            have hym := List.mem_of_getElem? hy
            have hdr : l.drop k = x :: l.drop (k + 1) := by
              obtain ⟨h1, h2⟩ := List.getElem?_eq_some_iff.1 hx
              rw [List.drop_eq_getElem_cons h1, h2]
            have hdr' : m.drop k = y :: m.drop (k + 1) := by
              obtain ⟨h1, h2⟩ := List.getElem?_eq_some_iff.1 hy
              rw [List.drop_eq_getElem_cons h1, h2]
            rw [hdr, hdr', samesM] at hkb
            have HKB2 := Lib.hid hkb
            have HX := Lib.hid hxm
            have HY := Lib.hid hym
            have c0 := hcx'.c0
            have c1 := hcx'.c1
            have c2 := hcx'.c2
            have c3 := hcx'.c3
            have c4 := hcx'.c4
            have c5 := hcx'.c5
            have d0 := hcy'.c0
            have d1 := hcy'.c1
            have d2 := hcy'.c2
            have d3 := hcy'.c3
            have d4 := hcy'.c4
            have d5 := hcy'.c5
            clear hkb hx hdr hcx hcx' hjx hxm hy hdr' hcy hcy' hjy hym
            obtain ⟨kA, kn, kc, lA, ln, lc, rfl, rfl⟩ := HJ.out.form
            obtain ⟨kA', kn', kc', lA', ln', lc', rfl, rfl⟩ := HJ'.out.form
            have F1 : Fr none' wr (wr.alloc (.cells #[.int .i64 x.kind, .bool x.yes, .int .i64 x.n, .string (bs x.s), .slice kA kn kc, .slice lA ln lc] 26)) := (Fr.refl _ _).alloc _
            have N1 : B26 (wr.alloc (.cells #[.int .i64 x.kind, .bool x.yes, .int .i64 x.n, .string (bs x.s), .slice kA kn kc, .slice lA ln lc] 26)) wr.heap.size _ _ _ _ _ _ := alloc_new _ _
            have HF1 := Lib.hid (HF.out.trans F1)
            have HN1 := Lib.hid N1
            have HJ1 := Lib.hid (HJ.out.fr F1 (fun _ _ => id))
            have HJ2 := Lib.hid (HJ'.out.fr F1 (fun _ _ => id))
            go_upto_region 6 with (fail)
            replace d0 := F1.cell d0 id
            replace d1 := F1.cell d1 id
            replace d2 := F1.cell d2 id
            replace d3 := F1.cell d3 id
            replace d4 := F1.cell d4 id
            replace d5 := F1.cell d5 id
            clear F1 N1 c0 c1 c2 c3 c4 c5 HJ HJ'
            obtain ⟨w2, hw2⟩ : ∃ w2, wr.alloc (.cells #[.int .i64 x.kind, .bool x.yes, .int .i64 x.n, .string (bs x.s), .slice kA kn kc, .slice lA ln lc] 26) = w2 := ⟨_, rfl⟩
            rw [hw2] at HF1 HN1 HJ1 HJ2 d0 d1 d2 d3 d4 d5 ⊢
            clear hw2
            have F3 : Fr none' w2 (w2.alloc (.cells #[.int .i64 y.kind, .bool y.yes, .int .i64 y.n, .string (bs y.s), .slice kA' kn' kc', .slice lA' ln' lc'] 26)) := (Fr.refl _ _).alloc _
            have N3 : B26 (w2.alloc (.cells #[.int .i64 y.kind, .bool y.yes, .int .i64 y.n, .string (bs y.s), .slice kA' kn' kc', .slice lA' ln' lc'] 26)) w2.heap.size _ _ _ _ _ _ := alloc_new _ _
            have M3 := B26.alloc HN1.out (.cells #[.int .i64 y.kind, .bool y.yes, .int .i64 y.n, .string (bs y.s), .slice kA' kn' kc', .slice lA' ln' lc'] 26)
            have HF3 := Lib.hid (HF1.out.trans F3)
            have HJ3 := Lib.hid (HJ1.out.fr F3 (fun _ _ => id))
            have HJ4 := Lib.hid (HJ2.out.fr F3 (fun _ _ => id))
            go_upto_region 7 with (fail)
            clear F3 HJ1 HJ2 HF1 HN1 d0 d1 d2 d3 d4 d5
            have HN3 := Lib.hid N3
            have HM3 := Lib.hid M3
            clear N3 M3
            obtain ⟨w3, hw3⟩ : ∃ w3, w2.alloc (.cells #[.int .i64 y.kind, .bool y.yes, .int .i64 y.n, .string (bs y.s), .slice kA' kn' kc', .slice lA' ln' lc'] 26) = w3 := ⟨_, rfl⟩
            rw [hw3] at HF3 HN3 HM3 HJ3 HJ4 ⊢
            clear hw3
            have c0 := HM3.out.c0
            have c1 := HM3.out.c1
            have c2 := HM3.out.c2
            have c3 := HM3.out.c3
            have c4 := HM3.out.c4
            have c5 := HM3.out.c5
            have d0 := HN3.out.c0
            have d1 := HN3.out.c1
            have d2 := HN3.out.c2
            have d3 := HN3.out.c3
            have d4 := HN3.out.c4
            have d5 := HN3.out.c5
            go_wp2_with fail
            refine (HH.out x HX.out ok ok' y _ _ _ _ _ (HG.out.fr0 HF3.out) HJ3.out HJ4.out (HZ.out x HX.out) (HZ'.out y HY.out)).mono ?_
            rintro e w4 ⟨rfl, f4⟩
            have HF4 := Lib.hid (HF3.out.trans f4)
            clear f4 c0 c1 c2 c3 c4 c5 d0 d1 d2 d3 d4 d5
            cases hv : sameM x y with
            | false =>
              have hkb := HKB2.out
              rw [hv] at hkb
              have HE := Lib.hid (show false = AL from by simpa using hkb)
              clear hkb hv
              go_wp2
              go_ret
              exact ⟨ret_bool HE.out, HF4.out⟩
            | true =>
              have hkb := HKB2.out
              rw [hv] at hkb
              have HE := Lib.hid (show samesM (l.drop (k + 1)) (m.drop (k + 1)) = AL from by simpa using hkb)
              clear hkb hv
              go_wp2
              go_roundw
              case rel => exact ⟨k + 1, by go_num, by omega, HF4.out, HE.out⟩
              case measure => simp [intOf]; omega
          · have hkb := HKB.out
            have e : k = l.length := by omega
            subst e
            rw [List.drop_length, HL.out, List.drop_length] at hkb
            have HE := Lib.hid (show true = AL from by simpa [samesM] using hkb)
            clear hkb
            go_wp2
            go_ret
            exact ⟨ret_bool HE.out, HF.out⟩
  · obtain ⟨A, c, rfl⟩ := hlv
    obtain ⟨A', c', rfl⟩ := hmv
    rw [samesM_len l m hlen]
    have hb : ((l.length : Int) == (m.length : Int)) = false := by simpa using fun h => hlen (by omega)
    clear hlen
    go_enter Tryz.func44, Tryz.ntmps44
    go_wp2
    go_ret
    exact ⟨rfl, Fr.refl _ _⟩
end Go.Proofs.YtakgcaehkphepaaGreatDoor

/- json.Same. -/
namespace Go.Proofs.YtakgcaehkphepaaGreatDoor
open Go.RowKit
set_option linter.unusedVariables false
set_option linter.unusedSimpArgs false

def sameV (k k' : Int) (y y' : Bool) (n n' : Int) (s s' : Bs) (K L : Bool) : Bool := decide (k = k') && (y == y') && decide (n = n') && decide (s = s') && K && L
set_option maxHeartbeats 4000000 in
set_option maxRecDepth 100000 in
theorem same_step (p : Value) (kind : Int) (yes : Bool) (n : Int) (s : Bs) (keys : List Bs) (l : List J) (H : ∀ x ∈ l, SameOk p x) : SameOk p (.mk kind yes n s keys l) := by
  intro ok ok' b kv lv kv' lv' w g hj hj' hz hz'
  obtain ⟨kind', yes', n', s', keys', l'⟩ := b
  obtain ⟨hs, hk, hkk, hl, hx⟩ := hz
  obtain ⟨hs', hk', hkk', hl', hx'⟩ := hz'
  have hst := hj.strs
  have hit := hj.items
  have hst' := hj'.strs
  have hit' := hj'.items
  simp only [J.keys, J.l] at hst hit hst' hit'
  obtain ⟨kA, kn, kc, lA, ln, lc, rfl, rfl⟩ := hj.form
  obtain ⟨kA', kn', kc', lA', ln', lc', rfl, rfl⟩ := hj'.form
  simp only [jVal, J.kind, J.n, J.s, J.yes]
  obtain ⟨SV, hSV⟩ : ∃ SV, sameM (.mk kind yes n s keys l) (.mk kind' yes' n' s' keys' l') = SV := ⟨_, rfl⟩
  rw [hSV]
  rw [show sameM (.mk kind yes n s keys l) (.mk kind' yes' n' s' keys' l') = sameV kind kind' yes yes' n n' s s' (decide (keys = keys')) (samesM l l') from by rw [sameM]; rfl] at hSV
  have W2 : Fr none' w ((w.alloc (.cells #[.int .i64 kind, .bool yes, .int .i64 n, .string (bs s), .slice kA kn kc, .slice lA ln lc] 26)).alloc (.cells #[.int .i64 kind', .bool yes', .int .i64 n', .string (bs s'), .slice kA' kn' kc', .slice lA' ln' lc'] 26)) := ((Fr.refl _ _).alloc _).alloc _
  have B2 : B26 ((w.alloc (.cells #[.int .i64 kind, .bool yes, .int .i64 n, .string (bs s), .slice kA kn kc, .slice lA ln lc] 26)).alloc (.cells #[.int .i64 kind', .bool yes', .int .i64 n', .string (bs s'), .slice kA' kn' kc', .slice lA' ln' lc'] 26)) w.heap.size _ _ _ _ _ _ := alloc_old (alloc_new w _) _
  have N2 : B26 ((w.alloc (.cells #[.int .i64 kind, .bool yes, .int .i64 n, .string (bs s), .slice kA kn kc, .slice lA ln lc] 26)).alloc (.cells #[.int .i64 kind', .bool yes', .int .i64 n', .string (bs s'), .slice kA' kn' kc', .slice lA' ln' lc'] 26)) (w.heap.size + 1) (.int .i64 kind') (.bool yes') (.int .i64 n') (.string (bs s')) (.slice kA' kn' kc') (.slice lA' ln' lc') := alloc_at _ (by simp)
  have HW2 := Lib.hid W2
  have HB2 := Lib.hid B2
  have HN2 := Lib.hid N2
  have HSV := Lib.hid hSV
  have HST := Lib.hid (hst.fr W2)
  have HIT := Lib.hid (hit.fr W2)
  have HST' := Lib.hid (hst'.fr W2)
  have HIT' := Lib.hid (hit'.fr W2)
  have HG := Lib.hid (g.fr0 W2)
  have HX := Lib.hid hx
  have HX' := Lib.hid hx'
  have HH := Lib.hid H
  clear W2 B2 N2 hSV hst hit hst' hit' hj hj' g hx hx' H hkk hkk'
  go_enter Tryz.func26, Tryz.ntmps26
  go_upto_region 1 with (fail)
  obtain ⟨w2, hw2⟩ : ∃ w2, ((w.alloc (.cells #[.int .i64 kind, .bool yes, .int .i64 n, .string (bs s), .slice kA kn kc, .slice lA ln lc] 26)).alloc (.cells #[.int .i64 kind', .bool yes', .int .i64 n', .string (bs s'), .slice kA' kn' kc', .slice lA' ln' lc'] 26)) = w2 := ⟨_, rfl⟩
  rw [hw2] at HW2 HB2 HN2 HST HIT HST' HIT' HG ⊢
  clear hw2
  have b0 := HB2.out.c0
  have b1 := HB2.out.c1
  have b2 := HB2.out.c2
  have b3 := HB2.out.c3
  have b4 := HB2.out.c4
  have b5 := HB2.out.c5
  have n0 := HN2.out.c0
  have n1 := HN2.out.c1
  have n2 := HN2.out.c2
  have n3 := HN2.out.c3
  have n4 := HN2.out.c4
  have n5 := HN2.out.c5
  by_cases e0 : kind = kind'
  case neg =>
    have HE := Lib.hid (show false = SV from by rw [← HSV.out]; unfold sameV; rw [decide_eq_false e0]; rfl)
    have hb : (kind == kind') = false := by simpa using e0
    clear e0
    go_wp2
    go_ret
    exact ⟨ret_bool HE.out, HW2.out⟩
  subst e0
  by_cases e1 : yes = yes'
  case neg =>
    have HE := Lib.hid (show false = SV from by rw [← HSV.out]; unfold sameV; cases yes <;> cases yes' <;> simp at e1 ⊢)
    cases yes <;> cases yes' <;> first | exact absurd rfl e1 | skip
    all_goals
      clear e1
      go_wp2
      go_ret
      exact ⟨ret_bool HE.out, HW2.out⟩
  subst e1
  by_cases e2 : n = n'
  case neg =>
    have HE := Lib.hid (show false = SV from by rw [← HSV.out]; unfold sameV; rw [decide_eq_false e2]; simp)
    have hb : (n == n') = false := by simpa using e2
    clear e2
    cases yes
    all_goals
      go_wp2_with fail
      go_ret
      exact ⟨ret_bool HE.out, HW2.out⟩
  subst e2
  by_cases e3 : s = s'
  case neg =>
    have HE := Lib.hid (show false = SV from by rw [← HSV.out]; unfold sameV; rw [decide_eq_false e3]; simp)
    have hb : ((bs s).toList == (bs s').toList) = false := by rw [bs_toList, bs_toList]; simpa using e3
    clear e3
    cases yes
    all_goals
      go_wp2_with fail
      go_ret
      exact ⟨ret_bool HE.out, HW2.out⟩
  subst e3
  have HSV2 := Lib.hid (show (decide (keys = keys') && samesM l l') = SV from by rw [← HSV.out]; unfold sameV; simp)
  clear HSV
  cases yes
  all_goals
    go_wp2_with fail
    refine (strEq_c _ _ keys keys' _ HST.out HST'.out hk hk').mono ?_
    rintro e w3 ⟨rfl, f3⟩
    have b5' := f3.cell b5 id
    have n5' := f3.cell n5 id
    have HIT3 := Lib.hid (HIT.out.fr f3)
    have HIT3' := Lib.hid (HIT'.out.fr f3)
    have HG3 := Lib.hid (HG.out.fr0 f3)
    have HF3 := Lib.hid (HW2.out.trans f3)
    clear f3 b0 b1 b2 b3 b4 b5 n0 n1 n2 n3 n4 n5
    cases hv : decide (keys = keys') with
    | false =>
      have hsv := HSV2.out
      rw [hv] at hsv
      have HE := Lib.hid (show false = SV from by simpa using hsv)
      clear hsv hv
      go_wp2
      go_ret
      exact ⟨ret_bool HE.out, HF3.out⟩
    | true =>
      have hsv := HSV2.out
      rw [hv] at hsv
      have HE := Lib.hid (show samesM l l' = SV from by simpa using hsv)
      clear hsv hv
      go_wp2_with fail
      refine (equalFunc_c p ok ok' l l' HH.out _ _ _ HG3.out HIT3.out HIT3'.out HX.out HX'.out).mono ?_
      rintro e w4 ⟨rfl, f4⟩
      go_wp2
      go_ret
      exact ⟨ret_bool HE.out, HF3.out.trans f4⟩
theorem same_c (p : Value) : ∀ a : J, SameOk p a
  | .mk kind yes n s keys l => same_step p kind yes n s keys l (fun x hx => same_c p x)
decreasing_by
  have := List.sizeOf_lt_of_mem hx
  simp only [J.mk.sizeOf_spec]
  omega
end Go.Proofs.YtakgcaehkphepaaGreatDoor
