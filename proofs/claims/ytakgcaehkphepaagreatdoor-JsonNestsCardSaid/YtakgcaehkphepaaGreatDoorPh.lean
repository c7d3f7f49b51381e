/- Plain law: what each statement says of the plain model. No program here. -/
import Derived.Test.YtakgcaehkphepaaGreatDoorPg
namespace Go.Proofs.YtakgcaehkphepaaGreatDoor
open Go.Lib
set_option linter.unusedVariables false
set_option linter.unusedSimpArgs false

/-! ### What is wrong is never 0 -/
def isErr (e : Int) : Prop := e = 150 ∨ e = 151 ∨ e = 152
theorem escUC_err (s : Bs) (e : Int) (h : escUC s = .error e) : isErr e := by
  unfold escUC at h
  unfold isErr
  repeat' split at h
  all_goals first | (cases h; done) | (injection h with h; omega)
theorem escC_err (s : Bs) (e : Int) (h : escC s = .error e) : isErr e := by
  unfold escC at h
  split at h
  · cases h
  · split at h
    · exact escUC_err _ _ h
    · injection h with h; exact .inl h.symm
theorem onto_err {a : Bs} {c : Except Int (Bs × Bs)} {e : Int} (h : onto a c = .error e) : c = .error e := by
  cases c with
  | error x => exact h
  | ok x => cases h
theorem wordC_err : ∀ (k : Nat) (s : Bs) (e : Int), wordC k s = .error e → isErr e
  | 0, s, e, h => by injection h with h; exact .inl h.symm
  | k + 1, s, e, h => by
    simp only [wordC] at h
    split at h
    · injection h with h; exact .inl h.symm
    · split at h
      · cases h
      · split at h
        · split at h
          · rename_i he
            injection h with h
            exact h ▸ escC_err _ _ he
          · exact wordC_err k _ _ (onto_err h)
        · exact wordC_err k _ _ (onto_err h)
theorem keyC_err (kind : Int) (s : Bs) (ks : List Bs) (e : Int) (h : keyC kind s ks = .error e) : isErr e := by
  unfold keyC at h
  split at h
  · split at h
    · split at h
      · rename_i hw
        injection h with h
        exact h ▸ wordC_err _ _ _ hw
      · split at h
        · injection h with h; exact .inl h.symm
        · split at h
          · cases h
          · injection h with h; exact .inl h.symm
    · injection h with h; exact .inl h.symm
  · cases h
theorem loopC_err (c : Bs → Except Int (J × Bs)) (hc : ∀ s e, c s = .error e → isErr e) (kind : Int) (cl : UInt8) :
    ∀ (g : Nat) (s : Bs) (ks : List Bs) (l : List J) (e : Int), loopC c kind cl g s ks l = .error e → isErr e
  | 0, s, ks, l, e, h => by injection h with h; exact .inl h.symm
  | g + 1, s, ks, l, e, h => by
    simp only [loopC] at h
    split at h
    · rename_i hk
      injection h with h
      exact h ▸ keyC_err _ _ _ _ hk
    · split at h
      · rename_i hv
        injection h with h
        exact h ▸ hc _ _ hv
      · split at h
        · cases h
        · split at h
          · exact loopC_err c hc kind cl g _ _ _ _ h
          · injection h with h; exact .inl h.symm
theorem leafC_err (s : Bs) (e : Int) (h : leafC s = .error e) : isErr e := by
  unfold leafC at h
  split at h
  · split at h
    · rename_i hw
      injection h with h
      exact h ▸ wordC_err _ _ _ hw
    · cases h
  · repeat' split at h
    all_goals first | (cases h; done) | (injection h with h; exact .inl h.symm)
theorem itemsC_err (c : Bs → Except Int (J × Bs)) (hc : ∀ s e, c s = .error e → isErr e) (kind : Int) (cl : UInt8) (s : Bs) (e : Int) (h : itemsC c kind cl s = .error e) : isErr e := by
  unfold itemsC at h
  split at h
  · cases h
  · exact loopC_err c hc kind cl _ _ _ _ _ h
theorem valC_err : ∀ (k : Nat) (s : Bs) (e : Int), valC k s = .error e → isErr e
  | 0, s, e, h => by
    simp only [valC] at h
    split at h
    · injection h with h; exact .inr (.inl h.symm)
    · split at h
      · injection h with h; exact .inr (.inl h.symm)
      · exact leafC_err _ _ h
  | k + 1, s, e, h => by
    simp only [valC] at h
    split at h
    · exact itemsC_err _ (valC_err k) _ _ _ _ h
    · split at h
      · exact itemsC_err _ (valC_err k) _ _ _ _ h
      · exact leafC_err _ _ h
/-- The program's answers: a right value and 0, or none and what is wrong. -/
theorem parse_cases (s : Bs) : (∃ j q, valC 64 (skipB s) = .ok (j, q) ∧ skipB q = [] ∧ parseM s = (j, 0)) ∨ ∃ e, isErr e ∧ parseM s = (nullJ, e) := by
  rw [parse_eq]
  unfold parseC
  cases h : valC 64 (skipB s) with
  | error e => exact .inr ⟨e, valC_err _ _ _ h, rfl⟩
  | ok y =>
    obtain ⟨j, q⟩ := y
    simp only
    by_cases hq : skipB q = []
    · rw [if_pos hq]; exact .inl ⟨j, q, rfl, hq, rfl⟩
    · rw [if_neg hq]; exact .inr ⟨150, .inl rfl, rfl⟩
theorem isErr_ne {e : Int} (h : isErr e) : e ≠ 0 := by unfold isErr at h; omega

/-! ### JsonBack, JsonRights -/
theorem law_back (j : J) (hr : rightM 64 j = true) (hn : numOk j = true) : parseM (textM j) = (j, 0) := by rw [parse_eq]; exact parse_text j hr hn
theorem law_rights_no (s : Bs) (j : J) (e : Int) (h : parseM s = (j, e)) (he : e ≠ 0) : j = nullJ := by
  rcases parse_cases s with ⟨j', q, _, _, h'⟩ | ⟨e', _, h'⟩
  · rw [h] at h'; injection h' with _ h'; exact absurd h' he
  · rw [h] at h'; injection h' with h' _
theorem law_rights (s : Bs) (j : J) (h : parseM s = (j, 0)) : rightM 64 j = true ∧ numOk j = true ∧ parseM (textM j) = (j, 0) ∧ parseM (32 :: (s ++ [10])) = (j, 0) := by
  rcases parse_cases s with ⟨j', q, hv, hq, h'⟩ | ⟨e', he, h'⟩
  · rw [h] at h'
    injection h' with h' _
    subst h'
    obtain ⟨hr, hn⟩ := val_good _ _ _ _ hv
    refine ⟨hr, hn, law_back j hr hn, ?_⟩
    have hne := valC_ne _ _ _ _ hv
    have hsk : skipB (32 :: (s ++ [10])) = skipB s ++ [10] := by
      rw [show skipB (32 :: (s ++ [10])) = skipB (s ++ [10]) from rfl, skip_app [10] hne]
    have hva := valC_app [10] (fun c r e => by injection e with e _; rw [← e]; unfold isDig; decide) _ _ _ _ hv
    rw [parse_eq]
    unfold parseC
    rw [hsk, hva]
    simp only
    rw [if_pos (skip_nil_app 10 (by decide) hq)]
  · rw [h] at h'
    injection h' with _ h'
    exact absurd h'.symm (isErr_ne he)

/-! ### JsonNests -/
def nestS : Nat → Bs
  | 0 => []
  | n + 1 => 91 :: (nestS n ++ [93])
def nestJ : Nat → J
  | 0 => emptyJ 4 [] []
  | n + 1 => emptyJ 4 [] [nestJ n]
theorem text_nest : ∀ n, textM (nestJ n) = nestS (n + 1)
  | 0 => by unfold nestJ emptyJ; rw [textM]; simp [nestS, textsM, join_nil]
  | n + 1 => by
    unfold nestJ emptyJ
    rw [textM, textsM, textsM, text_nest n]
    simp [nestS, join_one]
theorem right_nest : ∀ k n, rightM k (nestJ n) = decide (n < k)
  | 0, n => by
    cases n with
    | zero => rfl
    | succ n => rfl
  | k + 1, 0 => by unfold nestJ emptyJ; rw [rightM_mk]; simp
  | k + 1, n + 1 => by
    unfold nestJ emptyJ
    rw [rightM_mk]
    have := right_nest k n
    simp [this]
theorem num_nest : ∀ n, numOk (nestJ n) = true
  | 0 => rfl
  | n + 1 => by
    unfold nestJ emptyJ
    rw [numOk, numsOk, num_nest n]
    rfl
theorem nest_deep : ∀ k n t, k < n → valC k (nestS n ++ t) = .error 151
  | 0, n, t, h => by
    obtain ⟨n, rfl⟩ : ∃ m, n = m + 1 := ⟨n - 1, by omega⟩
    rfl
  | k + 1, n, t, h => by
    obtain ⟨n, rfl⟩ : ∃ m, n = m + 1 := ⟨n - 1, by omega⟩
    have ih := nest_deep k n ([93] ++ t) (by omega)
    obtain ⟨m, rfl⟩ : ∃ m, n = m + 1 := ⟨n - 1, by omega⟩
    have e : nestS (m + 1 + 1) ++ t = 91 :: (nestS (m + 1) ++ ([93] ++ t)) := by rw [nestS]; simp
    rw [e]
    simp only [valC]
    rw [if_pos (by rfl), List.drop_one, List.tail_cons]
    unfold itemsC
    have hs : ∃ r, nestS (m + 1) ++ ([93] ++ t) = 91 :: r := ⟨_, rfl⟩
    obtain ⟨r, hr⟩ := hs
    rw [hr] at ih ⊢
    rw [skip_head 91 r (by decide), isPre1, if_neg (by decide)]
    simp only [loopC, keyC]
    rw [if_neg (by decide), skip_head 91 r (by decide)]
    simp only
    rw [ih]
theorem law_nest0 : parseM [] = (nullJ, 150) := by rw [parse_eq]; rfl
theorem law_nest (n : Nat) (h : n < 64) : parseM (nestS (n + 1)) = (nestJ n, 0) ∧ printM (nestJ n) = (nestS (n + 1), 0) ∧ printM (nestJ (n + 1)) = (if n + 1 < 64 then (nestS (n + 1 + 1), 0) else ([], 150)) := by
  have hr : rightM 64 (nestJ n) = true := by rw [right_nest]; simpa using h
  refine ⟨?_, ?_, ?_⟩
  · rw [← text_nest]; exact law_back _ hr (num_nest n)
  · unfold printM; rw [if_pos hr, text_nest]
  · unfold printM
    rw [right_nest, text_nest]
    by_cases h2 : n + 1 < 64
    · rw [if_pos h2, if_pos (by simpa using h2)]
    · rw [if_neg h2, if_neg (by simpa using h2)]
theorem law_nest_deep (n : Nat) (h : 64 < n) : parseM (nestS n) = (nullJ, 151) := by
  rw [parse_eq]
  unfold parseC
  have hs : skipB (nestS n) = nestS n := by
    obtain ⟨n, rfl⟩ : ∃ m, n = m + 1 := ⟨n - 1, by omega⟩
    exact skip_head 91 _ (by decide)
  have := nest_deep 64 n [] h
  rw [List.append_nil] at this
  rw [hs, this]

/-! ### JsonTexts -/
theorem text_text (s : Bs) : textM (.mk 3 false 0 s [] []) = quoteB s := by rw [textM]; simp
theorem law_texts (s : Bs) (h : validD s = true) : parseM (quoteB s) = (.mk 3 false 0 s [] [], 0) := by
  rw [← text_text]
  refine law_back _ ?_ rfl
  rw [rightM_mk, if_neg (by decide), if_neg (by decide), leafR_mk, if_neg (by decide), if_neg (by decide), if_neg (by decide), if_pos rfl, h]
  rfl

/-! ### A few levels -/
theorem few_mk (d : Nat) (kind : Int) (yes : Bool) (n : Int) (s : Bs) (keys : List Bs) (l : List J) : fewM (d + 1) (.mk kind yes n s keys l) = .mk kind yes n (shortB s) ((keys.take 6).map shortB) ((l.take 6).map (fewM d)) := rfl
theorem few_mk0 (kind : Int) (yes : Bool) (n : Int) (s : Bs) (keys : List Bs) (l : List J) : fewM 0 (.mk kind yes n s keys l) = .mk kind yes n (shortB s) ((keys.take 6).map shortB) [] := rfl
theorem num_few : ∀ (d : Nat) (j : J), numOk j = true → numOk (fewM d j) = true
  | 0, .mk kind yes n s keys l, h => by
    rw [few_mk0]
    rw [numOk, Bool.and_eq_true] at h ⊢
    exact ⟨h.1, rfl⟩
  | d + 1, .mk kind yes n s keys l, h => by
    rw [few_mk]
    rw [numOk, numsOk_all, Bool.and_eq_true] at h ⊢
    refine ⟨h.1, all_of fun x hx => ?_⟩
    rw [List.mem_map] at hx
    obtain ⟨y, hy, rfl⟩ := hx
    exact num_few d y (List.all_eq_true.1 h.2 y (List.mem_of_mem_take hy))
theorem leaf_any (k k' : Nat) (j : J) (h4 : j.kind ≠ 4) (h5 : j.kind ≠ 5) : rightM k j = rightM k' j := by
  have : ∀ k, rightM k j = leafR j := by
    intro k
    cases k with
    | zero => rfl
    | succ k =>
      obtain ⟨kind, yes, n, s, keys, l⟩ := j
      have h4' : kind ≠ 4 := h4
      have h5' : kind ≠ 5 := h5
      rw [rightM_mk, if_neg h4', if_neg h5']
  rw [this k, this k']
theorem right_few : ∀ (d k k' : Nat) (j : J), d < k → d < k' → rightM k (fewM d j) = rightM k' (fewM d j)
  | 0, k, k', .mk kind yes n s keys l, h, h' => by
    obtain ⟨k, rfl⟩ : ∃ m, k = m + 1 := ⟨k - 1, by omega⟩
    obtain ⟨k', rfl⟩ : ∃ m, k' = m + 1 := ⟨k' - 1, by omega⟩
    rw [few_mk0, rightM_mk, rightM_mk]
    rfl
  | d + 1, k, k', .mk kind yes n s keys l, h, h' => by
    obtain ⟨k, rfl⟩ : ∃ m, k = m + 1 := ⟨k - 1, by omega⟩
    obtain ⟨k', rfl⟩ : ∃ m, k' = m + 1 := ⟨k' - 1, by omega⟩
    rw [few_mk, rightM_mk, rightM_mk]
    have e : ((l.take 6).map (fewM d)).all (rightM k) = ((l.take 6).map (fewM d)).all (rightM k') := by
      rw [List.all_map, List.all_map]
      congr 1
      funext x
      exact right_few d k k' x (by omega) (by omega)
    rw [e]

/-! ### JsonJoins -/
theorem text_list2 (v w : J) : textM (emptyJ 4 [] [v, w]) = 91 :: (textM v ++ 44 :: (textM w ++ [93])) := by
  unfold emptyJ
  rw [textM]
  simp [textsM, join_cons2, join_one]
theorem text_obj2 (v w : J) (k m : Bs) : textM (emptyJ 5 [k, m] [v, w]) = 123 :: (quoteB k ++ 58 :: (textM v ++ 44 :: (quoteB m ++ 58 :: (textM w ++ [125])))) := by
  unfold emptyJ
  rw [textM]
  simp [textsM, pairsM, join_cons2, join_one]
theorem law_join_list (v w : J) (hv : rightM 63 v = true) (hw : rightM 63 w = true) (nv : numOk v = true) (nw : numOk w = true) :
    parseM (91 :: (textM v ++ 44 :: (textM w ++ [93]))) = (emptyJ 4 [] [v, w], 0) := by
  rw [← text_list2]
  refine law_back _ ?_ ?_
  · unfold emptyJ; rw [rightM_mk]; simp [hv, hw]
  · unfold emptyJ; rw [numOk]; simp [numsOk, nv, nw]
theorem law_join_obj (v w : J) (k m : Bs) (hk : validD k = true) (hm : validD m = true) (hne : k ≠ m) (hv : rightM 63 v = true) (hw : rightM 63 w = true) (nv : numOk v = true) (nw : numOk w = true) :
    parseM (123 :: (quoteB k ++ 58 :: (textM v ++ 44 :: (quoteB m ++ 58 :: (textM w ++ [125]))))) = (emptyJ 5 [k, m] [v, w], 0) := by
  rw [← text_obj2]
  refine law_back _ ?_ ?_
  · unfold emptyJ; rw [rightM_mk]; simp [hv, hw, keysB, hk, hm, hne.symm]
  · unfold emptyJ; rw [numOk]; simp [numsOk, nv, nw]
theorem fuel2 (c : UInt8) (r : Bs) : (c :: r).length + 1 = r.length + 1 + 1 := rfl
theorem dup_items (val : Bs → Except Int (J × Bs)) (v : J) (k : Bs) (hk : validD k = true) (t : Bs) (hval : ∀ t, noDig t → val (textM v ++ t) = .ok (v, t)) :
    itemsC val 5 125 (quoteB k ++ 58 :: (textM v ++ 44 :: (quoteB k ++ 58 :: t))) = .error 150 := by
  have e : ∀ r, quoteB k ++ r = 34 :: (qs k ++ 34 :: r) := fun r => by simp [quoteB]
  rw [e, e]
  unfold itemsC
  rw [skip_head 34 _ (by decide), isPre1, if_neg (by decide), fuel2]
  simp only [loopC, keyC]
  rw [if_pos trivial, skip_head 34 _ (by decide), isPre1, if_pos (by decide), List.drop_one, List.tail_cons]
  rw [word_quote k hk _ _ (by rw [List.length_append]; omega)]
  simp only
  rw [if_neg (by simp), skip_head 58 _ (by decide), isPre1, if_pos (by decide), List.drop_one, List.tail_cons, skip_text]
  simp only
  rw [hval _ (noDig_cons _ _ nd44)]
  simp only
  rw [skip_head 44 _ (by decide), isPre1, isPre1, if_neg (by decide), if_pos (by decide), List.drop_one, List.tail_cons, if_pos trivial, skip_head 34 _ (by decide), isPre1, if_pos (by decide), List.drop_one, List.tail_cons,
    word_quote k hk _ _ (by rw [List.length_append]; omega)]
  simp only
  rw [if_pos (by simp)]
theorem valC_obj (k : Nat) (s : Bs) : valC (k + 1) (123 :: s) = itemsC (valC k) 5 125 s := by
  simp only [valC]
  rw [if_neg (by show ¬ (123 : Int) = 91; decide), if_pos (by rfl), List.drop_one, List.tail_cons]
theorem law_join_dup (v w : J) (k : Bs) (hk : validD k = true) (hv : rightM 63 v = true) (nv : numOk v = true) :
    parseM (123 :: (quoteB k ++ 58 :: (textM v ++ 44 :: (quoteB k ++ 58 :: (textM w ++ [125]))))) = (nullJ, 150) := by
  rw [parse_eq]
  unfold parseC
  rw [skip_head 123 _ (by decide), valC_obj 63, dup_items (valC 63) v k hk _ (fun t ht => val_text 63 v hv nv t ht)]

/-! ### Keys -/
theorem get_one (k m : Bs) (v : J) : getM (emptyJ 5 [k] [v]) m = if k = m then some v else none := by
  unfold getM emptyJ
  simp only [J.kind, J.keys, J.l, if_true]
  by_cases h : k = m
  · rw [if_pos h]; simp [List.findIdx?_cons, h]
  · rw [if_neg h]; simp [List.findIdx?_cons, h]
theorem get_two (k m : Bs) (v w : J) (hne : k ≠ m) : getM (emptyJ 5 [k, m] [v, w]) k = some v ∧ getM (emptyJ 5 [k, m] [v, w]) m = some w := by
  unfold getM emptyJ
  simp only [J.kind, J.keys, J.l, if_true]
  constructor
  · simp [List.findIdx?_cons]
  · simp [List.findIdx?_cons, hne]
theorem right_one (k : Bs) (v : J) : rightM 64 (emptyJ 5 [k] [v]) = (validD k && rightM 63 v) := by
  unfold emptyJ
  rw [rightM_mk]
  simp [keysB]
end Go.Proofs.YtakgcaehkphepaaGreatDoor
