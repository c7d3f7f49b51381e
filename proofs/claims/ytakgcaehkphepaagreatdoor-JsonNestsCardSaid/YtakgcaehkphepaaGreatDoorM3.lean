/- json.areKeys. -/
import Derived.Test.YtakgcaehkphepaaGreatDoorM2
import Derived.Test.YtakgcaehkphepaaGreatDoorPe
import Derived.BigGuard
namespace Go.Proofs.YtakgcaehkphepaaGreatDoor
open Go.RowKit
set_option linter.unusedVariables false
set_option linter.unusedSimpArgs false

/-- A row of strings, by its cells. -/
def StrsAt (w : World) (v : Value) (ks : List Bs) : Prop := (v = .slice none 0 0 ∧ ks = []) ∨ ∃ g cap, v = .slice (some ⟨g, 0, none⟩) ks.length cap ∧ ks.length ≤ cap ∧ ∀ i k, ks[i]? = some k → w.cell? ⟨g, i, none⟩ = some (.string (bs k))
theorem own_strs {w : World} {B : Nat} {v : Value} {ks : List Bs} (h : w.ownsRow B 9 1 v ks.length (strC ks)) : StrsAt w v ks := by
  obtain ⟨hl, hv⟩ := h
  rcases hv with ⟨rfl, h0⟩ | ⟨g, cap, cur, rfl, hg, hh, hn, hcap, hsz, htk⟩
  · exact .inl ⟨rfl, List.length_eq_zero_iff.1 h0⟩
  · refine .inr ⟨g, cap, rfl, hn, fun i k hk => ?_⟩
    have hi : i < ks.length := (List.getElem?_eq_some_iff.1 hk).1
    rw [cell_of hh]
    have h1 : cur[i]? = cur.toList[i]? := by simp
    have h2 : (cur.toList.take (ks.length * 1))[i]? = cur.toList[i]? := by rw [List.getElem?_take_of_lt (by omega)]
    rw [h1, ← h2, htk]
    simp [strC, hk]
theorem StrsAt.fr {w w' : World} {v : Value} {ks : List Bs} (h : StrsAt w v ks) (f : Fr none' w w') : StrsAt w' v ks := by
  rcases h with h | ⟨g, cap, e, hc, hk⟩
  · exact .inl h
  · exact .inr ⟨g, cap, e, hc, fun i k hi => f.cell (hk i k hi) id⟩

/-- slices.Contains over the first of a row. -/
theorem containsPre_c (g cap : Nat) (ks : List Bs) (k : Nat) (t : Bs) (w : World) (hk : k ≤ ks.length) (hbig : ks.length ≤ 9223372036854775807) (hc : ∀ i k, ks[i]? = some k → w.cell? ⟨g, i, none⟩ = some (.string (bs k))) :
    Calls Tryz.prog 93 #[.slice (some ⟨g, 0, none⟩) k cap, .string (bs t)] w fun e w' => e = .returned (.bool (decide (t ∈ ks.take k))) ∧ w' = w := by
  refine (Tryz.slices_Contains_string g 0 k cap (ks.map bs) (bs t) w (by simpa using hk) (by omega) ?_).mono ?_
  · intro j hj
    rw [List.length_map] at hj
    rw [Nat.zero_add, hc j ks[j] (List.getElem?_eq_getElem hj)]
    simp [List.getD_eq_getElem?_getD, hj]
  · rintro e w' ⟨rfl, rfl⟩
    refine ⟨?_, rfl⟩
    congr 2
    rw [← List.map_take]
    have h1 := Lib.containsS_iff ((ks.take k).map bs) (bs t)
    have h2 : bs t ∈ (ks.take k).map bs ↔ t ∈ ks.take k := by
      rw [List.mem_map]
      exact ⟨fun ⟨a, ha, e⟩ => bs_inj e ▸ ha, fun h => ⟨t, h, rfl⟩⟩
    rw [h2] at h1
    cases hcb : Lib.containsS ((ks.take k).map bs) (bs t) with
    | true => rw [decide_eq_true (h1.1 hcb)]
    | false => rw [decide_eq_false (fun h => by rw [h1.2 h] at hcb; cases hcb)]

theorem valid_c (p : Value) (s : Bs) (w : World) (g : Gl p w) (hs : s.length ≤ 9223372036854775807) :
    Calls Tryz.prog 37 #[.string (bs s)] w fun e w' => e = .returned (.bool (Lib.validD s)) ∧ Fr none' w w' := by
  refine (Tryz.utf8_ValidString (bs s) w (by rw [bs_size]; exact hs) g.u8).mono ?_
  rintro e w' ⟨he, hb⟩
  rw [bs_data] at he
  exact ⟨he, Fr.of_below hb _⟩

theorem keysB_at (ks : List Bs) (k : Nat) (x : Bs) (hx : ks[k]? = some x) : keysB (ks.take k) (ks.drop k) = (Lib.validD x && decide (x ∉ ks.take k) && keysB (ks.take (k + 1)) (ks.drop (k + 1))) := by
  obtain ⟨hlt, rfl⟩ := List.getElem?_eq_some_iff.1 hx
  rw [List.drop_eq_getElem_cons hlt, keysB, List.take_succ_eq_append_getElem hlt]

set_option maxHeartbeats 2000000 in
set_option maxRecDepth 100000 in
theorem areKeys_c (p : Value) (v : Value) (ks : List Bs) (w : World) (g : Gl p w) (h : StrsAt w v ks) (hn : ks.length ≤ 1000000000) (hl : ∀ k ∈ ks, k.length ≤ 1000000000) :
    Calls Tryz.prog 68 #[v] w fun e w' => e = .returned (.bool (keysB [] ks)) ∧ Fr none' w w' := by
  rcases h with ⟨rfl, rfl⟩ | ⟨b, cap, rfl, hcap, hc⟩
  · go_enter Tryz.func68, Tryz.ntmps68
    go_wp2
    go_loopw [7] (fun i wr => i = .int .i64 0 ∧ Fr none' w wr) (fun _ _ => 0)
    case atStart => exact ⟨rfl, Fr.refl _ _⟩
    case round =>
      obtain ⟨rfl, hf⟩ := hrel
      go_wp2
      go_ret
      exact ⟨rfl, hf⟩
  · obtain ⟨KB, hKB⟩ : ∃ KB, keysB [] ks = KB := ⟨_, rfl⟩
    rw [hKB]
    have HK := Lib.hid hKB
    have HC := Lib.hid hc
    have HG := Lib.hid g
    have HL := Lib.hid hl
    clear hKB hc g hl
    go_enter Tryz.func68, Tryz.ntmps68
    go_wp2
    go_loopw [7] (fun i wr => ∃ k : Nat, i = .int .i64 k ∧ k ≤ ks.length ∧ Fr none' w wr ∧ keysB (ks.take k) (ks.drop k) = KB) (fun i _ => ks.length - (intOf i).toNat)
    case atStart => exact ⟨0, rfl, Nat.zero_le _, Fr.refl _ _, by simpa using HK.out⟩
    case round =>
      obtain ⟨k, rfl, hk, hf, hkb⟩ := hrel
      have HF := Lib.hid hf
      have HKB := Lib.hid hkb
      clear hf hkb
      by_cases hlt : k < ks.length
      · obtain ⟨x, hx⟩ : ∃ x, ks[k]? = some x := ⟨_, List.getElem?_eq_getElem hlt⟩
        have ck := HF.out.cell (HC.out k x hx) id
        have hxl := HL.out x (List.mem_of_getElem? hx)
        have hkb := HKB.out
        rw [keysB_at ks k x hx] at hkb
        have HKB2 := Lib.hid hkb
        have HX := Lib.hid hx
        clear hkb hx
        go_wp2_with fail
        refine (valid_c p x _ (HG.out.fr0 HF.out) (by omega)).mono ?_
        rintro e w2 ⟨rfl, f2⟩
        have HF2 := Lib.hid (HF.out.trans f2)
        clear f2 ck
        cases hv : Lib.validD x with
        | false =>
          have hkb := HKB2.out
          rw [hv] at hkb
          have HE := Lib.hid (show false = KB from by simpa using hkb)
          clear hkb hv
          go_wp2
          go_ret
          exact ⟨ret_bool HE.out, HF2.out⟩
        | true =>
          have hkb := HKB2.out
          rw [hv] at hkb
          have HKB3 := Lib.hid hkb
          clear hkb hv
          have hcap' : k ≤ cap := by omega
          go_wp2_with fail
          refine (containsPre_c b cap ks k x _ hk (by omega) (fun i y hy => HF2.out.cell (HC.out i y hy) id)).mono ?_
          rintro e w3 ⟨rfl, rfl⟩
          by_cases hm : x ∈ ks.take k
          · rw [decide_eq_true hm]
            have HE := Lib.hid (show false = KB from by have := HKB3.out; rw [decide_eq_false (by simpa using hm)] at this; simpa using this)
            clear hm
            go_wp2
            go_ret
            exact ⟨ret_bool HE.out, HF2.out⟩
          · rw [decide_eq_false hm]
            have HE := Lib.hid (show keysB (ks.take (k + 1)) (ks.drop (k + 1)) = KB from by have := HKB3.out; rw [decide_eq_true hm] at this; simpa using this)
            clear hm
            go_wp2
            go_roundw
            case rel => exact ⟨k + 1, by go_num, by omega, HF2.out, HE.out⟩
            case measure => simp [intOf]; omega
      · have hkb := HKB.out
        have e : k = ks.length := by omega
        subst e
        rw [List.drop_length] at hkb
        have HE := Lib.hid (show true = KB from by simpa [keysB] using hkb)
        clear hkb
        go_wp2
        go_ret
        exact ⟨ret_bool HE.out, HF.out⟩
end Go.Proofs.YtakgcaehkphepaaGreatDoor

/- A value's items, read; json.isRight's closure, slices.IndexFunc, slices.ContainsFunc over it. -/
namespace Go.Proofs.YtakgcaehkphepaaGreatDoor
open Go.RowKit
set_option linter.unusedVariables false
set_option linter.unusedSimpArgs false

/-! ### A value's items, read -/
/-- A value's six cells. -/
structure Cells6 (w : World) (g o : Nat) (x : J) (kv lv : Value) : Prop where
  c0 : w.cell? ⟨g, o, none⟩ = some (.int .i64 x.kind)
  c1 : w.cell? ⟨g, o + 1, none⟩ = some (.bool x.yes)
  c2 : w.cell? ⟨g, o + 2, none⟩ = some (.int .i64 x.n)
  c3 : w.cell? ⟨g, o + 3, none⟩ = some (.string (bs x.s))
  c4 : w.cell? ⟨g, o + 4, none⟩ = some kv
  c5 : w.cell? ⟨g, o + 5, none⟩ = some lv
theorem Cells6.fr {w w' : World} {g o : Nat} {x : J} {kv lv : Value} (h : Cells6 w g o x kv lv) (f : Fr none' w w') : Cells6 w' g o x kv lv :=
  ⟨f.cell h.c0 id, f.cell h.c1 id, f.cell h.c2 id, f.cell h.c3 id, f.cell h.c4 id, f.cell h.c5 id⟩
/-- A row of values. -/
def ItemsAt (w : World) (ok : Nat → Prop) (lv : Value) (l : List J) : Prop := (lv = .slice none 0 0 ∧ l = []) ∨ ∃ g cap, lv = .slice (some ⟨g, 0, none⟩) l.length cap ∧ l.length ≤ cap ∧ cap ≤ maxLen ∧
  ∀ i x, l[i]? = some x → ∃ kv' lv', JAt w ok x kv' lv' ∧ Cells6 w g (i * 6) x kv' lv'
theorem JReps.at {w : World} {ok : Nat → Prop} : ∀ {l : List J} {cs : List Value}, JReps w ok l cs → ∀ i x, l[i]? = some x → ∃ kv lv, JAt w ok x kv lv ∧ ∀ t u, (jCells x kv lv)[t]? = some u → cs[i * 6 + t]? = some u
  | _, _, .nil, i, x, h => by simp at h
  | _, _, .cons (j := j) (kv := kv) (lv := lv) (cs := cs) h hs, 0, x, hx => by
    simp only [List.getElem?_cons_zero, Option.some.injEq] at hx
    subst hx
    refine ⟨kv, lv, h, fun t u hu => ?_⟩
    have ht : t < 6 := by have := (List.getElem?_eq_some_iff.1 hu).1; simpa [jCells] using this
    rw [Nat.zero_mul, Nat.zero_add, List.getElem?_append_left (by simp [jCells]; omega)]
    exact hu
  | _, _, .cons (j := j) (kv := kv) (lv := lv) (cs := cs) h hs, i + 1, x, hx => by
    simp only [List.getElem?_cons_succ] at hx
    obtain ⟨kv', lv', h', hc⟩ := hs.at i x hx
    refine ⟨kv', lv', h', fun t u hu => ?_⟩
    rw [List.getElem?_append_right (by simp [jCells]; omega)]
    have := hc t u hu
    rw [← this]
    congr 1
    simp [jCells]; omega
theorem JAt.strs {w : World} {ok : Nat → Prop} {j : J} {kv lv : Value} (h : JAt w ok j kv lv) : StrsAt w kv j.keys := by
  cases h with
  | mk hk hl hs => exact own_strs hk.1
theorem JAt.items {w : World} {ok : Nat → Prop} {j : J} {kv lv : Value} (h : JAt w ok j kv lv) : ItemsAt w ok lv j.l := by
  cases h with
  | mk hk hl hs =>
    rename_i kind yes n s keys l cs
    obtain ⟨hle, hv⟩ := hl.1
    rcases hv with ⟨rfl, h0⟩ | ⟨g, cap, cur, rfl, hg, hh, hn, hcap, hsz, htk⟩
    · exact .inl ⟨rfl, List.length_eq_zero_iff.1 h0⟩
    · refine .inr ⟨g, cap, rfl, hn, hcap, fun i x hx => ?_⟩
      obtain ⟨kv', lv', h', hc⟩ := hs.at i x hx
      have hi : i < l.length := (List.getElem?_eq_some_iff.1 hx).1
      have hcell : ∀ t u, (jCells x kv' lv')[t]? = some u → w.cell? ⟨g, i * 6 + t, none⟩ = some u := by
        intro t u hu
        have ht : t < 6 := by have := (List.getElem?_eq_some_iff.1 hu).1; simpa [jCells] using this
        rw [cell_of hh]
        have h1 : cur[i * 6 + t]? = cur.toList[i * 6 + t]? := by simp
        have h2 : (cur.toList.take (l.length * 6))[i * 6 + t]? = cur.toList[i * 6 + t]? := by
          rw [List.getElem?_take_of_lt]
          have : (i + 1) * 6 ≤ l.length * 6 := Nat.mul_le_mul_right 6 hi
          omega
        rw [h1, ← h2, htk]
        exact hc t u hu
      exact ⟨kv', lv', h', hcell 0 _ rfl, hcell 1 _ rfl, hcell 2 _ rfl, hcell 3 _ rfl, hcell 4 _ rfl, hcell 5 _ rfl⟩
theorem ItemsAt.fr {w w' : World} {ok : Nat → Prop} {lv : Value} {l : List J} (h : ItemsAt w ok lv l) (f : Fr none' w w') : ItemsAt w' ok lv l := by
  rcases h with h | ⟨g, cap, e, h1, h2, h3⟩
  · exact .inl h
  · refine .inr ⟨g, cap, e, h1, h2, fun i x hx => ?_⟩
    obtain ⟨kv', lv', hj, hc⟩ := h3 i x hx
    exact ⟨kv', lv', hj.fr f (fun _ _ => id), hc.fr f⟩
/-- No more than so many of anything. -/
inductive JSz (N : Nat) : J → Prop
  | mk {kind : Int} {yes : Bool} {n : Int} {s : Bs} {keys : List Bs} {l : List J} (hs : s.length ≤ N) (hk : keys.length ≤ N) (hkk : ∀ k ∈ keys, k.length ≤ N) (hl : l.length ≤ N) (hx : ∀ x ∈ l, JSz N x) : JSz N (.mk kind yes n s keys l)

/-! ### json.isRight's closure -/
/-- What json.isRight does, nested so much. -/
def RightOk (p : Value) (m : Int) (f : J → Bool) : Prop := ∀ (ok : Nat → Prop) (j : J) (kv lv : Value) (w : World), Gl p w → JAt w ok j kv lv → JSz 1000000000 j →
  Calls Tryz.prog 41 #[jVal j kv lv, .int .i64 m] w fun e w' => e = .returned (.bool (f j)) ∧ Fr none' w w'

set_option maxHeartbeats 1000000 in
theorem right_clo (p : Value) (m : Int) (f : J → Bool) (H : RightOk p (m - 1) f) (hm : 0 < m) (hm' : m ≤ 100) (b : Nat) (ok : Nat → Prop) (j : J) (kv lv : Value) (w : World) (g : Gl p w) (hj : JAt w ok j kv lv) (hz : JSz 1000000000 j) (hb : w.cell? ⟨b, 0, none⟩ = some (.int .i64 m)) :
    Calls Tryz.prog 70 #[jVal j kv lv, .pointer (some ⟨b, 0, none⟩)] w fun e w' => e = .returned (.bool (!f j)) ∧ Fr none' w w' := by
  obtain ⟨kA, kn, kc, lA, ln, lc, rfl, rfl⟩ := hj.form
  have F1 : Fr none' w (w.alloc (.cells #[.int .i64 j.kind, .bool j.yes, .int .i64 j.n, .string (bs j.s), .slice kA kn kc, .slice lA ln lc] 26)) := (Fr.refl _ _).alloc _
  have hb1 := F1.cell hb id
  have HG := Lib.hid (g.fr0 F1)
  have HJ := Lib.hid (hj.fr F1 (fun _ _ => id))
  have HF := Lib.hid F1
  have HH := Lib.hid H
  clear F1 hb g hj H
  unfold jVal
  go_enter Tryz.func70, Tryz.ntmps70
  go_wp2_with fail
  refine (HH.out ok j _ _ _ HG.out HJ.out hz).mono ?_
  rintro e w2 ⟨rfl, f2⟩
  go_wp2
  go_ret
  exact ⟨rfl, HF.out.trans f2⟩

/-- Below 0 where there is none. -/
def IdxIs (a : Bool) (i : Int) : Prop := if a then i < 0 else 0 ≤ i
set_option maxHeartbeats 2000000 in
set_option maxRecDepth 100000 in
theorem indexFunc_c (p : Value) (m : Int) (f : J → Bool) (H : RightOk p (m - 1) f) (hm : 0 < m) (hm' : m ≤ 100) (b : Nat) (ok : Nat → Prop) (l : List J) (lv : Value) (w : World) (g : Gl p w) (hl : ItemsAt w ok lv l) (hz : ∀ x ∈ l, JSz 1000000000 x) (hb : w.cell? ⟨b, 0, none⟩ = some (.int .i64 m)) :
    Calls Tryz.prog 94 #[lv, .func (.func 70) #[] #[.pointer (some ⟨b, 0, none⟩)]] w fun e w' => (∃ i : Int, e = .returned (.int .i64 i) ∧ IdxIs (l.all f) i) ∧ Fr none' w w' := by
  rcases hl with ⟨rfl, rfl⟩ | ⟨gb, cap, rfl, hcap, hmax, hc⟩
  · go_enter Tryz.func94, Tryz.ntmps94
    go_wp2
    go_loopw [8] (fun i wr => i = .int .i64 0 ∧ Fr none' w wr) (fun _ _ => 0)
    case atStart => exact ⟨rfl, Fr.refl _ _⟩
    case round =>
      obtain ⟨rfl, hf⟩ := hrel
      go_wp2
      go_ret
      exact ⟨⟨-1, rfl, by simp [IdxIs]⟩, hf⟩
  · unfold maxLen at hmax
    obtain ⟨AL, hAL⟩ : ∃ AL, l.all f = AL := ⟨_, rfl⟩
    rw [hAL]
    have HA := Lib.hid hAL
    have HC := Lib.hid hc
    have HG := Lib.hid g
    have HZ := Lib.hid hz
    have HB := Lib.hid hb
    have HH := Lib.hid H
    clear hAL hc g hz hb H
    have hln : l.length ≤ 9223372036854775807 := by omega
    go_enter Tryz.func94, Tryz.ntmps94
    go_wp2
    go_loopw [8] (fun i wr => ∃ k : Nat, i = .int .i64 k ∧ k ≤ l.length ∧ Fr none' w wr ∧ (l.drop k).all f = AL) (fun i _ => l.length - (intOf i).toNat)
    case atStart => exact ⟨0, rfl, Nat.zero_le _, Fr.refl _ _, by simpa using HA.out⟩
    case round =>
      obtain ⟨k, rfl, hk, hf, hkb⟩ := hrel
      have HF := Lib.hid hf
      have HKB := Lib.hid hkb
      clear hf hkb
      by_cases hlt : k < l.length
      · obtain ⟨x, hx⟩ : ∃ x, l[k]? = some x := ⟨_, List.getElem?_eq_getElem hlt⟩
        obtain ⟨kv', lv', hjx, hcx⟩ := HC.out k x hx
        have hcx' := hcx.fr HF.out
        have HJ := Lib.hid (hjx.fr HF.out (fun _ _ => id))
        have hkb := HKB.out
        have hxm := List.mem_of_getElem? hx
        have hdr : l.drop k = x :: l.drop (k + 1) := by
          obtain ⟨h1, h2⟩ := List.getElem?_eq_some_iff.1 hx
          rw [List.drop_eq_getElem_cons h1, h2]
        rw [hdr, List.all_cons] at hkb
        have HKB2 := Lib.hid hkb
        have HX := Lib.hid hxm
        have c0 := hcx'.c0
        have c1 := hcx'.c1
        have c2 := hcx'.c2
        have c3 := hcx'.c3
        have c4 := hcx'.c4
        have c5 := hcx'.c5
        clear hkb hx hdr hcx hcx' hjx hxm
        obtain ⟨kA, kn, kc, lA, ln, lc, rfl, rfl⟩ := HJ.out.form
        go_wp2_with fail
        refine (right_clo p m f HH.out hm hm' b ok x _ _ _ (HG.out.fr0 HF.out) HJ.out (HZ.out x HX.out) (HF.out.cell HB.out id)).mono ?_
        rintro e w2 ⟨rfl, f2⟩
        have HF2 := Lib.hid (HF.out.trans f2)
        clear f2 c0 c1 c2 c3 c4 c5
        cases hv : f x with
        | false =>
          have hkb := HKB2.out
          rw [hv] at hkb
          have HE := Lib.hid (show false = AL from by simpa using hkb)
          clear hkb hv
          go_wp2
          go_ret
          exact ⟨⟨(k : Int), rfl, by rw [← HE.out]; simp [IdxIs]⟩, HF2.out⟩
        | true =>
          have hkb := HKB2.out
          rw [hv] at hkb
          have HE := Lib.hid (show (l.drop (k + 1)).all f = AL from by simpa using hkb)
          clear hkb hv
          go_wp2
          go_roundw
          case rel => exact ⟨k + 1, by go_num, by omega, HF2.out, HE.out⟩
          case measure => simp [intOf]; omega
      · have hkb := HKB.out
        have e : k = l.length := by omega
        subst e
        rw [List.drop_length] at hkb
        have HE := Lib.hid (show true = AL from by simpa using hkb)
        clear hkb
        go_wp2
        go_ret
        exact ⟨⟨-1, rfl, by rw [← HE.out]; simp [IdxIs]⟩, HF.out⟩
set_option maxHeartbeats 1000000 in
theorem containsFunc_c (p : Value) (m : Int) (f : J → Bool) (H : RightOk p (m - 1) f) (hm : 0 < m) (hm' : m ≤ 100) (b : Nat) (ok : Nat → Prop) (l : List J) (lv : Value) (w : World) (g : Gl p w) (hl : ItemsAt w ok lv l) (hz : ∀ x ∈ l, JSz 1000000000 x) (hb : w.cell? ⟨b, 0, none⟩ = some (.int .i64 m)) :
    Calls Tryz.prog 69 #[lv, .func (.func 70) #[] #[.pointer (some ⟨b, 0, none⟩)]] w fun e w' => e = .returned (.bool (!l.all f)) ∧ Fr none' w w' := by
  have HL := Lib.hid hl
  clear hl
  go_enter Tryz.func69, Tryz.ntmps69
  go_wp2_with fail
  refine (indexFunc_c p m f H hm hm' b ok l lv w g HL.out hz hb).mono ?_
  rintro e w2 ⟨⟨i, rfl, hi⟩, f2⟩
  cases ha : l.all f with
  | true =>
    rw [ha] at hi
    have h0 : decide (0 ≤ i) = false := by unfold IdxIs at hi; simp at hi ⊢; omega
    have H0 := Lib.hid h0
    have HA := Lib.hid ha
    clear ha hi h0
    go_wp2
    go_ret
    exact ⟨ret_bool (by rw [H0.out, HA.out]; rfl), f2⟩
  | false =>
    rw [ha] at hi
    have h0 : decide (0 ≤ i) = true := by unfold IdxIs at hi; simpa using hi
    have H0 := Lib.hid h0
    have HA := Lib.hid ha
    clear ha hi h0
    go_wp2
    go_ret
    exact ⟨ret_bool (by rw [H0.out, HA.out]; rfl), f2⟩
/-- Over no values at all. -/
theorem indexNil_c (A : Option Addr) (c : Nat) (v : Value) (w : World) :
    Calls Tryz.prog 94 #[.slice A 0 c, v] w fun e w' => e = .returned (.int .i64 (-1)) ∧ w' = w := by
  go_enter Tryz.func94, Tryz.ntmps94
  go_wp2
  go_loopw [8] (fun i wr => i = .int .i64 0 ∧ wr = w) (fun _ _ => 0)
  case atStart => exact ⟨rfl, rfl⟩
  case round =>
    obtain ⟨rfl, rfl⟩ := hrel
    go_wp2
    go_ret
    exact ⟨rfl, rfl⟩
theorem containsNil_c {A : Option Addr} {c : Nat} (p : Value) (m : Int) (f : J → Bool) (v : Value) (w : World) :
    Calls Tryz.prog 69 #[.slice A 0 c, v] w fun e w' => e = .returned (.bool (!([] : List J).all f)) ∧ Fr none' w w' := by
  go_enter Tryz.func69, Tryz.ntmps69
  go_wp2_with fail
  refine (indexNil_c _ _ _ _).mono ?_
  rintro e w2 ⟨rfl, rfl⟩
  go_wp2
  go_ret
  exact ⟨rfl, Fr.refl _ _⟩
end Go.Proofs.YtakgcaehkphepaaGreatDoor
