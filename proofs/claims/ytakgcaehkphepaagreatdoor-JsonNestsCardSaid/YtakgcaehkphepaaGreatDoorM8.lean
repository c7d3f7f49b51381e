/- Plain law: how great a value is that was read, and its text. -/
import Derived.Test.YtakgcaehkphepaaGreatDoorM7
import Derived.Test.YtakgcaehkphepaaGreatDoorPh
import Derived.Lib.ItoaLen
namespace Go.Proofs.YtakgcaehkphepaaGreatDoor
open Go.Lib
set_option linter.unusedVariables false
set_option linter.unusedSimpArgs false

def wtK : List Bs → Nat
  | [] => 0
  | k :: r => 6 * k.length + 4 + wtK r
mutual
/-- A value's weight. -/
def wt : J → Nat
  | .mk _ _ _ s keys l => 22 + 6 * s.length + wtK keys + wtL l
def wtL : List J → Nat
  | [] => 0
  | j :: l => wt j + 1 + wtL l
end
theorem wtK_snoc (k : Bs) : ∀ ks : List Bs, wtK (ks ++ [k]) = wtK ks + (6 * k.length + 4)
  | [] => by simp [wtK]
  | a :: r => by rw [List.cons_append, wtK, wtK, wtK_snoc k r]; omega
theorem wtL_snoc (x : J) : ∀ l : List J, wtL (l ++ [x]) = wtL l + (wt x + 1)
  | [] => by simp [wtL]
  | a :: r => by rw [List.cons_append, wtL, wtL, wtL_snoc x r]; omega
theorem wtK_mem : ∀ (ks : List Bs) (k : Bs), k ∈ ks → k.length ≤ wtK ks
  | a :: r, k, h => by
    rw [wtK]
    rcases List.mem_cons.1 h with rfl | h
    · omega
    · have := wtK_mem r k h; omega
theorem wtK_len : ∀ ks : List Bs, ks.length ≤ wtK ks
  | [] => Nat.le_refl _
  | a :: r => by have := wtK_len r; rw [wtK, List.length_cons]; omega
theorem wtL_mem : ∀ (l : List J) (x : J), x ∈ l → wt x ≤ wtL l
  | a :: r, x, h => by
    rw [wtL]
    rcases List.mem_cons.1 h with rfl | h
    · omega
    · have := wtL_mem r x h; omega
theorem wtL_len : ∀ l : List J, l.length ≤ wtL l
  | [] => Nat.le_refl _
  | a :: r => by have := wtL_len r; rw [wtL, List.length_cons]; omega
theorem wt_jsz (N : Nat) : ∀ j : J, wt j ≤ N → JSz N j
  | .mk kind yes n s keys l, h => by
    rw [wt] at h
    have h1 := wtK_len keys
    have h2 := wtL_len l
    exact .mk (by omega) (by omega) (fun k hk => by have := wtK_mem keys k hk; omega) (by omega) (fun x hx => wt_jsz N x (by have := wtL_mem l x hx; omega))
decreasing_by
  have := List.sizeOf_lt_of_mem hx
  simp only [J.mk.sizeOf_spec]
  omega
theorem join_le : ∀ ts : List Bs, (join ts [44]).length ≤ (ts.map fun t => t.length + 1).sum
  | [] => by simp [join_nil]
  | [a] => by simp [join_one]
  | a :: b :: r => by
    have := join_le (b :: r)
    rw [join_cons2, List.length_append, List.length_append, List.map_cons, List.sum_cons]
    simp only [List.length_singleton, List.length_cons, List.length_nil]
    omega
theorem quote_le (s : Bs) : (quoteB s).length ≤ 6 * s.length + 2 := by
  have := qs_len s
  unfold quoteB
  simp; omega
theorem pairs_le : ∀ (ks ts : List Bs), ((pairsM ks ts).map fun t => t.length + 1).sum ≤ wtK ks + (ts.map fun t => t.length + 1).sum
  | [], ts => by simp [pairsM]
  | k :: ks, [] => by simp [pairsM]
  | k :: ks, t :: ts => by
    have := pairs_le ks ts
    have hq := quote_le k
    unfold pairsM at this ⊢
    rw [List.zipWith_cons_cons, List.map_cons, List.sum_cons, List.map_cons, List.sum_cons, wtK, List.length_append, List.length_cons]
    omega
mutual
theorem text_wt : ∀ j : J, numOk j = true → (textM j).length ≤ wt j
  | .mk kind yes n s keys l, h => by
    rw [numOk, Bool.and_eq_true, Bool.and_eq_true, decide_eq_true_eq, decide_eq_true_eq] at h
    have h1 := texts_wt l h.2
    have h2 := join_le (textsM l)
    have h3 := join_le (pairsM keys (textsM l))
    have h4 := pairs_le keys (textsM l)
    have h5 := itoa_length_le n h.1.1 h.1.2
    have h6 := quote_le s
    rw [textM, wt]
    split
    · cases yes <;> simp [sTrue, sFalse] <;> omega
    · split
      · omega
      · split
        · omega
        · split
          · simp only [List.length_cons, List.length_append, List.length_nil]; omega
          · split
            · simp only [List.length_cons, List.length_append, List.length_nil]; omega
            · simp [sNull]; omega
theorem texts_wt : ∀ l : List J, numsOk l = true → ((textsM l).map fun t => t.length + 1).sum ≤ wtL l
  | [], h => by simp [textsM]
  | j :: l, h => by
    rw [numsOk, Bool.and_eq_true] at h
    have h1 := text_wt j h.1
    have h2 := texts_wt l h.2
    rw [textsM, List.map_cons, List.sum_cons, wtL]
    omega
end
theorem escC_wt (s t r : Bs) (h : escC s = .ok (t, r)) : t.length ≤ 4 := by
  unfold escC at h
  split at h
  · rename_i x hx
    simp only [Except.ok.injEq, Prod.mk.injEq] at h
    obtain ⟨rfl, _⟩ := h
    have := (esc1_len _ _ hx).1
    omega
  · split at h
    · unfold escUC at h
      split at h
      · cases h
      · split at h
        · simp only [Except.ok.injEq, Prod.mk.injEq] at h; obtain ⟨rfl, _⟩ := h; exact encB_le _
        · split at h
          · cases h
          · split at h
            · split at h
              · split at h
                · simp only [Except.ok.injEq, Prod.mk.injEq] at h; obtain ⟨rfl, _⟩ := h; exact encB_le _
                · cases h
              · cases h
            · cases h
    · cases h
theorem wordC_wt : ∀ (k : Nat) (s x q : Bs), wordC k s = .ok (x, q) → x.length + 4 * q.length + 4 ≤ 4 * s.length
  | 0, s, x, q, h => by cases h
  | k + 1, s, x, q, h => by
    have on : ∀ (a s' : Bs), onto a (wordC k s') = .ok (x, q) → x.length + 4 * q.length + 4 ≤ a.length + 4 * s'.length := by
      intro a s' h
      cases hw : wordC k s' with
      | error e => rw [hw] at h; cases h
      | ok y =>
        obtain ⟨y1, y2⟩ := y
        rw [hw] at h
        simp only [onto, Except.ok.injEq, Prod.mk.injEq] at h
        obtain ⟨rfl, rfl⟩ := h
        have := wordC_wt k _ _ _ hw
        rw [List.length_append]; omega
    rcases word_view s with rfl | ⟨h0, hb⟩ | ⟨c, r, rfl, hc⟩ | ⟨r, rfl⟩ | ⟨r, rfl⟩ | ⟨c, r, rfl, hc, h0, h1, h2⟩ | ⟨u, r, t, rfl, m⟩
    · rw [wordC_nil] at h; cases h
    · rw [wordC_bad k s h0 hb] at h; cases h
    · rw [wordC_ctl k c r hc] at h; cases h
    · rw [wordC_end] at h
      simp only [Except.ok.injEq, Prod.mk.injEq] at h
      obtain ⟨rfl, rfl⟩ := h
      simp; omega
    · rw [wordC_esc] at h
      cases he : escC r with
      | error e => rw [he] at h; cases h
      | ok y =>
        obtain ⟨t, r'⟩ := y
        rw [he] at h
        have := on t r' h
        have := escC_len _ _ _ he
        have := escC_wt _ _ _ he
        simp; omega
    · rw [wordC_plain k c r hc h0 h1 h2] at h
      have := on _ _ h
      simp at *; omega
    · rw [wordC_multi k u r t m] at h
      have := on _ _ h
      rw [List.length_append]; omega
theorem keyC_wt (kind : Int) (s : Bs) (ks ks' : List Bs) (q : Bs) (h : keyC kind s ks = .ok (ks', q)) : wtK ks' + 50 * q.length ≤ wtK ks + 50 * s.length := by
  have h0 := skipB_le s
  unfold keyC at h
  split at h
  · split at h
    · split at h
      · cases h
      · rename_i hp _ k q' hw
        have hp0 := isPre_len hp
        have h1 := wordC_wt _ _ _ _ hw
        rw [List.length_drop] at h1
        have h2 := skipB_le q'
        have h3 := skipB_le ((skipB q').drop 1)
        rw [List.length_drop] at h3
        split at h
        · cases h
        · split at h
          · simp only [Except.ok.injEq, Prod.mk.injEq] at h
            obtain ⟨rfl, rfl⟩ := h
            rw [wtK_snoc]
            simp at hp0
            omega
          · cases h
    · cases h
  · simp only [Except.ok.injEq, Prod.mk.injEq] at h; obtain ⟨rfl, rfl⟩ := h; omega
theorem loopC_wt (c : Bs → Except Int (J × Bs)) (hl : ∀ s x q, c s = .ok (x, q) → wt x + 50 * q.length ≤ 50 * s.length) (kind : Int) (cl : UInt8) :
    ∀ (g : Nat) (s : Bs) (ks : List Bs) (l : List J) (x : J) (q : Bs), loopC c kind cl g s ks l = .ok (x, q) → wt x + 50 * q.length ≤ 50 * s.length + 22 + wtK ks + wtL l
  | 0, s, ks, l, x, q, h => by cases h
  | g + 1, s, ks, l, x, q, h => by
    simp only [loopC] at h
    split at h
    · cases h
    · rename_i ks' s1 hkc
      have hs1 := keyC_wt _ _ _ _ _ hkc
      split at h
      · cases h
      · rename_i y s2 hc
        have hs2 := hl _ _ _ hc
        have h2 := skipB_le s2
        split at h
        · rename_i hp
          have hp0 := isPre_len hp
          simp only [Except.ok.injEq, Prod.mk.injEq] at h
          obtain ⟨rfl, rfl⟩ := h
          unfold emptyJ
          rw [wt, wtL_snoc, List.length_drop]
          simp at hp0 ⊢
          omega
        · split at h
          · rename_i hp
            have hp0 := isPre_len hp
            have := loopC_wt c hl kind cl g _ _ _ _ _ h
            rw [List.length_drop, wtL_snoc] at this
            simp at hp0
            omega
          · cases h
theorem dig_pos {s : Bs} (h : digBad s = false) : 1 ≤ (digText s).length := by
  have hk := bad_ok h
  cases hd : digText s with
  | nil => rw [hd] at hk; cases hk
  | cons a b => simp
theorem leafC_wt (s : Bs) (x : J) (q : Bs) (h : leafC s = .ok (x, q)) : wt x + 50 * q.length ≤ 50 * s.length := by
  unfold leafC at h
  split at h
  · rename_i hf
    have h0 := first_drop hf (by decide)
    split at h
    · cases h
    · rename_i hw
      have := wordC_wt _ _ _ _ hw
      simp only [Except.ok.injEq, Prod.mk.injEq] at h; obtain ⟨rfl, rfl⟩ := h
      rw [List.length_drop] at this
      rw [wt]
      simp only [wtK, wtL]
      omega
  · split at h
    · rename_i hp
      have := isPre_len hp
      simp only [Except.ok.injEq, Prod.mk.injEq] at h; obtain ⟨rfl, rfl⟩ := h
      unfold nullJ
      rw [wt]
      simp [wtK, wtL, sNull] at *; omega
    · split at h
      · rename_i hp
        have := isPre_len hp
        simp only [Except.ok.injEq, Prod.mk.injEq] at h; obtain ⟨rfl, rfl⟩ := h
        rw [wt]
        simp [wtK, wtL, sTrue] at *; omega
      · split at h
        · rename_i hp
          have := isPre_len hp
          simp only [Except.ok.injEq, Prod.mk.injEq] at h; obtain ⟨rfl, rfl⟩ := h
          rw [wt]
          simp [wtK, wtL, sFalse] at *; omega
        · split at h
          · cases h
          · rename_i hb
            have h1 := dig_pos (by simpa using hb)
            have h2 : (digText s).length ≤ s.length := by unfold digText; rw [List.length_take]; omega
            simp only [Except.ok.injEq, Prod.mk.injEq] at h; obtain ⟨rfl, rfl⟩ := h
            rw [wt, List.length_drop]
            simp only [wtK, wtL, List.length_nil]
            omega
theorem itemsC_wt (c : Bs → Except Int (J × Bs)) (hl : ∀ s x q, c s = .ok (x, q) → wt x + 50 * q.length ≤ 50 * s.length) (kind : Int) (cl : UInt8) (s : Bs) (x : J) (q : Bs) (h : itemsC c kind cl s = .ok (x, q)) : wt x + 50 * q.length ≤ 50 * s.length + 22 := by
  have h0 := skipB_le s
  unfold itemsC at h
  split at h
  · simp only [Except.ok.injEq, Prod.mk.injEq] at h; obtain ⟨rfl, rfl⟩ := h
    unfold emptyJ
    rw [wt, List.length_drop]
    simp [wtK, wtL]; omega
  · have := loopC_wt c hl kind cl _ _ _ _ _ _ h
    simp only [wtK, wtL] at this
    omega
theorem valC_wt : ∀ (k : Nat) (s : Bs) (x : J) (q : Bs), valC k s = .ok (x, q) → wt x + 50 * q.length ≤ 50 * s.length
  | 0, s, x, q, h => by
    simp only [valC] at h
    split at h
    · cases h
    · split at h
      · cases h
      · exact leafC_wt _ _ _ h
  | k + 1, s, x, q, h => by
    simp only [valC] at h
    split at h
    · rename_i hf
      have h0 := first_drop hf (by decide)
      have := itemsC_wt (valC k) (valC_wt k) _ _ _ _ _ h
      rw [List.length_drop] at this; omega
    · split at h
      · rename_i hf
        have h0 := first_drop hf (by decide)
        have := itemsC_wt (valC k) (valC_wt k) _ _ _ _ _ h
        rw [List.length_drop] at this; omega
      · exact leafC_wt _ _ _ h
/-- How great a value is that was read. -/
theorem parse_wt (s : Bs) : wt (parseM s).1 ≤ 50 * s.length + 22 ∧ numOk (parseM s).1 = true := by
  rcases parse_cases s with ⟨j, q, hv, hq, h⟩ | ⟨e, he, h⟩
  · rw [h]
    have h1 := valC_wt _ _ _ _ hv
    have h2 := skipB_le s
    exact ⟨by simp only; omega, (val_good _ _ _ _ hv).2⟩
  · rw [h]
    exact ⟨by simp [nullJ, wt, wtK, wtL], rfl⟩
end Go.Proofs.YtakgcaehkphepaaGreatDoor

/- diaeresislaw18.shown: the plain answers. -/
namespace Go.Proofs.YtakgcaehkphepaaGreatDoor
open Go.Lib
set_option linter.unusedVariables false
set_option linter.unusedSimpArgs false
/-- '{"a": [1, "\u00e9"]}' -/
def sA : Bs := [123, 34, 97, 34, 58, 32, 91, 49, 44, 32, 34, 92, 117, 48, 48, 101, 57, 34, 93, 125]
def jB : J := .mk 2 false 1 [] [] []
def jC : J := .mk 3 false 0 [195, 169] [] []
def jL : J := emptyJ 4 [] [jB, jC]
def jA : J := emptyJ 5 [[97]] [jL]
/-- '{"a":[1,"é"]}' -/
def tA : Bs := [123, 34, 97, 34, 58, 91, 49, 44, 34, 195, 169, 34, 93, 125]
def sD : Bs := [34, 92, 117, 100, 56, 48, 48, 34]
def sQ : Bs := [97, 34, 10]
def tQ : Bs := [34, 97, 92, 34, 92, 117, 48, 48, 48, 97, 34]
set_option maxRecDepth 100000 in
theorem parseA : parseM sA = (jA, 0) := by rw [parse_eq]; rfl
set_option maxRecDepth 100000 in
theorem parseD : parseM sD = (nullJ, 152) := by rw [parse_eq]; rfl
theorem textA : textM jA = tA := by
  have e1 : itoa 1 = [49] := by rw [itoa, if_neg (by decide), show (1 : Int).toNat = 1 from rfl, decDigits, dif_pos (by decide)]; rfl
  have hB : textM jB = [49] := by unfold jB; rw [textM, if_neg (by decide), if_pos rfl, e1]
  have hC : textM jC = [34, 195, 169, 34] := by unfold jC; rw [textM, if_neg (by decide), if_neg (by decide), if_pos rfl]; decide
  have hL : textM jL = [91, 49, 44, 34, 195, 169, 34, 93] := by
    unfold jL emptyJ; rw [textM, if_neg (by decide), if_neg (by decide), if_neg (by decide), if_pos rfl, textsM, textsM, textsM, hB, hC]; rfl
  unfold jA emptyJ
  rw [textM, if_neg (by decide), if_neg (by decide), if_neg (by decide), if_neg (by decide), if_pos rfl, textsM, textsM, hL]; rfl
theorem quoteQ : quoteM sQ = tQ := by decide
theorem validQ : validD sQ = true := by decide
theorem rightA : rightM 64 jA = true := by decide
theorem getA : getM jA [97] = some jL := rfl
theorem numA : numOk jA = true := by decide

open Go.RowKit
set_option maxHeartbeats 4000000 in
set_option maxRecDepth 100000 in
theorem shown_c (p : Value) (w : World) (g : Gl p w) :
    Calls Tryz.prog 11 #[] w fun e w' => e = .returned (.bool true) ∧ Fr none' w w' := by
  have HG := Lib.hid g
  clear g
  go_enter Tryz.func11, Tryz.ntmps11
  go_wp2_with fail
  refine (parse_c p sA _ HG.out (by decide)).mono ?_
  rintro e w1 ⟨kv, lv, rfl, T1, f1⟩
  rw [parseA] at T1 ⊢
  obtain ⟨kA, kn, kc, lA, ln, lc, rfl, rfl⟩ := T1.form
  have HG1 := Lib.hid (HG.out.fr0 f1)
  have HT1 := Lib.hid (T1.mono (ok' := fun k => k < w1.heap.size) (fun k _ h => h))
  have HF1 := Lib.hid f1
  clear T1 f1
  unfold jVal
  go_upto_region 2 with (fail)
  have A2 : Fr none' w1 (w1.alloc (.cells #[.int .i64 jA.kind, .bool jA.yes, .int .i64 jA.n, .string (bs jA.s), .slice kA kn kc, .slice lA ln lc] 26)) := (Fr.refl _ _).alloc _
  have N2 : B26 (w1.alloc (.cells #[.int .i64 jA.kind, .bool jA.yes, .int .i64 jA.n, .string (bs jA.s), .slice kA kn kc, .slice lA ln lc] 26)) w1.heap.size _ _ _ _ _ _ := alloc_new _ _
  have HG2 := Lib.hid (HG1.out.fr0 A2)
  have HT2 := Lib.hid (HT1.out.fr A2 (fun _ _ => id))
  have HF2 := Lib.hid (HF1.out.trans A2)
  have HN2 := Lib.hid N2
  clear A2 N2 HG1 HT1 HF1
  obtain ⟨w2, hw2⟩ : ∃ w2, w1.alloc (.cells #[.int .i64 jA.kind, .bool jA.yes, .int .i64 jA.n, .string (bs jA.s), .slice kA kn kc, .slice lA ln lc] 26) = w2 := ⟨_, rfl⟩
  rw [hw2] at HG2 HT2 HF2 HN2 ⊢
  clear hw2
  obtain ⟨b, hb⟩ : ∃ b, w1.heap.size = b := ⟨_, rfl⟩
  rw [hb] at HN2 HT2 ⊢
  clear hb
  have b0 := HN2.out.c0
  have b1 := HN2.out.c1
  have b2 := HN2.out.c2
  have b3 := HN2.out.c3
  have b4 := HN2.out.c4
  have b5 := HN2.out.c5
  go_wp2_with fail
  refine (print_c p _ jA _ _ _ HG2.out HT2.out (wt_jsz _ _ (by decide)) numA (by rw [textA]; decide)).mono ?_
  rintro e w3 ⟨rfl, f3⟩
  rw [show printM jA = (tA, 0) from by unfold printM; rw [rightA, if_pos rfl, textA]]
  have HG3 := Lib.hid (HG2.out.fr0 f3)
  have HT3 := Lib.hid (HT2.out.fr f3 (fun _ _ => id))
  have HF3 := Lib.hid (HF2.out.trans f3)
  have HN3 := Lib.hid (HN2.out.fr f3 id)
  clear b0 b1 b2 b3 b4 b5 f3 HG2 HT2 HF2 HN2
  have b0 := HN3.out.c0
  have b1 := HN3.out.c1
  have b2 := HN3.out.c2
  have b3 := HN3.out.c3
  have b4 := HN3.out.c4
  have b5 := HN3.out.c5
  go_wp2_with fail
  refine (get_c p _ jA [97] _ _ _ HG3.out HT3.out (wt_jsz _ _ (by decide))).mono ?_
  rintro e w4 ⟨hg, f4⟩
  rw [getA] at hg
  obtain ⟨kv', lv', rfl, TL⟩ := hg
  have hit := TL.items
  rcases hit with ⟨_, hnil⟩ | ⟨gb, cap, hlv, hcap, hmax, hc⟩
  · exact absurd hnil (by decide)
  obtain ⟨kB, knB, kcB, lB, lnB, lcB, hk', hl'⟩ := TL.form
  subst hk'
  subst hlv
  obtain ⟨kv1, lv1, hjB, hcB⟩ := hc 0 jB rfl
  have cN : w4.cell? ⟨gb, 2, none⟩ = some (.int .i64 1) := hcB.c2
  have HG4 := Lib.hid (HG3.out.fr0 f4)
  have HT4 := Lib.hid (HT3.out.fr f4 (fun _ _ => id))
  have HF4 := Lib.hid (HF3.out.trans f4)
  have HN4 := Lib.hid (HN3.out.fr f4 id)
  have HC4 := Lib.hid cN
  clear b0 b1 b2 b3 b4 b5 f4 HG3 HT3 HF3 HN3 TL hcB hjB hc hl' cN
  unfold jVal
  rw [show jL.l.length = 2 from rfl] at hcap ⊢
  go_upto_region 4 with (fail)
  have A5 : Fr none' w4 (w4.alloc (.cells #[.int .i64 jL.kind, .bool jL.yes, .int .i64 jL.n, .string (bs jL.s), .slice kB knB kcB, .slice (some ⟨gb, 0, none⟩) 2 cap] 26)) := (Fr.refl _ _).alloc _
  have N5 : B26 (w4.alloc (.cells #[.int .i64 jL.kind, .bool jL.yes, .int .i64 jL.n, .string (bs jL.s), .slice kB knB kcB, .slice (some ⟨gb, 0, none⟩) 2 cap] 26)) w4.heap.size _ _ _ _ _ _ := alloc_new _ _
  have HG5 := Lib.hid (HG4.out.fr0 A5)
  have HT5 := Lib.hid (HT4.out.fr A5 (fun _ _ => id))
  have HF5 := Lib.hid (HF4.out.trans A5)
  have HN5 := Lib.hid (HN4.out.fr A5 id)
  have HC5 := Lib.hid (A5.cell HC4.out id)
  have HM5 := Lib.hid N5
  clear A5 N5 HG4 HT4 HF4 HN4 HC4
  obtain ⟨w5, hw5⟩ : ∃ w5, w4.alloc (.cells #[.int .i64 jL.kind, .bool jL.yes, .int .i64 jL.n, .string (bs jL.s), .slice kB knB kcB, .slice (some ⟨gb, 0, none⟩) 2 cap] 26) = w5 := ⟨_, rfl⟩
  rw [hw5] at HG5 HT5 HF5 HN5 HC5 HM5 ⊢
  clear hw5
  obtain ⟨x, hx⟩ : ∃ x, w4.heap.size = x := ⟨_, rfl⟩
  rw [hx] at HM5 ⊢
  clear hx
  go_wp2_with fail
  refine (parse_c p sD _ HG5.out (by decide)).mono ?_
  rintro e w6 ⟨kv6, lv6, rfl, T6, f6⟩
  rw [parseD] at T6 ⊢
  obtain ⟨kA6, kn6, kc6, lA6, ln6, lc6, rfl, rfl⟩ := T6.form
  have HG6 := Lib.hid (HG5.out.fr0 f6)
  have HT6 := Lib.hid (HT5.out.fr f6 (fun _ _ => id))
  have HF6 := Lib.hid (HF5.out.trans f6)
  have HN6 := Lib.hid (HN5.out.fr f6 id)
  have HC6 := Lib.hid (f6.cell HC5.out id)
  have HM6 := Lib.hid (HM5.out.fr f6 id)
  clear T6 f6 HG5 HT5 HF5 HN5 HC5 HM5
  unfold jVal
  go_upto_region 5 with (fail)
  have A7 : Fr none' w6 (w6.alloc (.cells #[.int .i64 nullJ.kind, .bool nullJ.yes, .int .i64 nullJ.n, .string (bs nullJ.s), .slice kA6 kn6 kc6, .slice lA6 ln6 lc6] 26)) := (Fr.refl _ _).alloc _
  have HG7 := Lib.hid (HG6.out.fr0 A7)
  have HT7 := Lib.hid (HT6.out.fr A7 (fun _ _ => id))
  have HF7 := Lib.hid (HF6.out.trans A7)
  have HN7 := Lib.hid (HN6.out.fr A7 id)
  have HC7 := Lib.hid (A7.cell HC6.out id)
  have HM7 := Lib.hid (HM6.out.fr A7 id)
  clear A7 HG6 HT6 HF6 HN6 HC6 HM6
  obtain ⟨w7, hw7⟩ : ∃ w7, w6.alloc (.cells #[.int .i64 nullJ.kind, .bool nullJ.yes, .int .i64 nullJ.n, .string (bs nullJ.s), .slice kA6 kn6 kc6, .slice lA6 ln6 lc6] 26) = w7 := ⟨_, rfl⟩
  rw [hw7] at HG7 HT7 HF7 HN7 HC7 HM7 ⊢
  clear hw7
  go_wp2_with fail
  refine (quote_c p sQ _ HG7.out (by decide)).mono ?_
  rintro e w8 ⟨rfl, f8⟩
  rw [quoteQ, validQ]
  have HG8 := Lib.hid (HG7.out.fr0 f8)
  have HT8 := Lib.hid (HT7.out.fr f8 (fun _ _ => id))
  have HF8 := Lib.hid (HF7.out.trans f8)
  have hN8 := HN7.out.fr f8 id
  have hM8 := HM7.out.fr f8 id
  have c8 := f8.cell HC7.out id
  have m5 := hM8.c5
  have b0 := hN8.c0
  have b1 := hN8.c1
  have b2 := hN8.c2
  have b3 := hN8.c3
  have b4 := hN8.c4
  have b5 := hN8.c5
  clear f8 HG7 HT7 HF7 HN7 HC7 HM7 hN8 hM8
  have e1 : (bs tA).toList = [123, 34, 97, 34, 58, 91, 49, 44, 34, 195, 169, 34, 93, 125] := bs_toList _
  have e2 : (bs tQ).toList = [34, 97, 92, 34, 92, 117, 48, 48, 48, 97, 34] := bs_toList _
  go_wp2_with fail
  refine (right_c p _ jA _ _ _ HG8.out HT8.out (wt_jsz _ _ (by decide))).mono ?_
  rintro e w9 ⟨rfl, f9⟩
  rw [rightA]
  go_wp2
  go_ret
  exact ⟨rfl, HF8.out.trans f9⟩
end Go.Proofs.YtakgcaehkphepaaGreatDoor

/- diaeresislaw18.cut, short. -/
namespace Go.Proofs.YtakgcaehkphepaaGreatDoor
open Go.RowKit
set_option linter.unusedVariables false
set_option linter.unusedSimpArgs false
theorem bs_take (s : Bs) (n : Nat) : (bs s).extract 0 n = bs (s.take n) := by rw [bs_extract]; simp
set_option maxHeartbeats 1000000 in
theorem cut_c (s : Bs) (w : World) (hN : s.length ≤ 9223372036854775807) :
    Calls Tryz.prog 13 #[.string (bs s)] w fun e w' => e = .returned (.string (bs (s.take 600))) ∧ w' = w := by
  have hz : (bs s).size ≤ 9223372036854775807 := by rw [bs_size]; exact hN
  by_cases h : s.length ≤ 600
  · have h1 : min ((bs s).size : Int) 600 = (bs s).size := by rw [bs_size]; omega
    have h2 : (bs s).extract 0 (bs s).size = bs (s.take 600) := by rw [bs_take, bs_size, List.take_of_length_le (Nat.le_refl _), List.take_of_length_le h]
    have h3 : (bs s).size ≤ 600 := by rw [bs_size]; exact h
    go_enter Tryz.func13, Tryz.ntmps13
    go_wp2
    go_ret
    exact ⟨rfl, rfl⟩
  · have h1 : min ((bs s).size : Int) 600 = 600 := by rw [bs_size]; omega
    have h2 : (bs s).extract 0 600 = bs (s.take 600) := bs_take s 600
    have h3 : 600 ≤ (bs s).size := by rw [bs_size]; omega
    have h4 : ¬ (bs s).size ≤ 600 := by rw [bs_size]; omega
    go_enter Tryz.func13, Tryz.ntmps13
    go_wp2
    go_ret
    exact ⟨rfl, rfl⟩
set_option maxHeartbeats 1000000 in
theorem short_c (s : Bs) (w : World) (hN : s.length ≤ 9223372036854775807) :
    Calls Tryz.prog 20 #[.string (bs s)] w fun e w' => e = .returned (.string (bs (s.take 50))) ∧ w' = w := by
  have hz : (bs s).size ≤ 9223372036854775807 := by rw [bs_size]; exact hN
  by_cases h : s.length ≤ 50
  · have h1 : min ((bs s).size : Int) 50 = (bs s).size := by rw [bs_size]; omega
    have h2 : (bs s).extract 0 (bs s).size = bs (s.take 50) := by rw [bs_take, bs_size, List.take_of_length_le (Nat.le_refl _), List.take_of_length_le h]
    have h3 : (bs s).size ≤ 50 := by rw [bs_size]; exact h
    go_enter Tryz.func20, Tryz.ntmps20
    go_wp2
    go_ret
    exact ⟨rfl, rfl⟩
  · have h1 : min ((bs s).size : Int) 50 = 50 := by rw [bs_size]; omega
    have h2 : (bs s).extract 0 50 = bs (s.take 50) := bs_take s 50
    have h3 : 50 ≤ (bs s).size := by rw [bs_size]; omega
    have h4 : ¬ (bs s).size ≤ 50 := by rw [bs_size]; omega
    go_enter Tryz.func20, Tryz.ntmps20
    go_wp2
    go_ret
    exact ⟨rfl, rfl⟩
end Go.Proofs.YtakgcaehkphepaaGreatDoor
