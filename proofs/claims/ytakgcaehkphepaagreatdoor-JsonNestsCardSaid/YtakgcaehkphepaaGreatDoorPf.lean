/- Plain law: a right value's text is read as the value. No program here. -/
import Derived.Test.YtakgcaehkphepaaGreatDoorPe
namespace Go.Proofs.YtakgcaehkphepaaGreatDoor
open Go.Lib
set_option linter.unusedVariables false
set_option linter.unusedSimpArgs false

theorem skip_head (c : UInt8) (r : Bs) (h : isBlank c = false) : skipB (c :: r) = c :: r := by
  unfold skipB; rw [List.dropWhile_cons, if_neg (by rw [h]; decide)]
theorem blank_dig {c : UInt8} (h : isDig c) : isBlank c = false ∧ c ≠ 93 ∧ c ≠ 125 ∧ c ≠ 34 ∧ c ≠ 91 ∧ c ≠ 123 ∧ c ≠ 110 ∧ c ≠ 116 ∧ c ≠ 102 := by
  have key : ∀ n : Fin 256, 48 ≤ n.val → n.val ≤ 57 → (isBlank (UInt8.ofNat n.val) = false ∧ UInt8.ofNat n.val ≠ 93 ∧ UInt8.ofNat n.val ≠ 125 ∧ UInt8.ofNat n.val ≠ 34 ∧ UInt8.ofNat n.val ≠ 91 ∧ UInt8.ofNat n.val ≠ 123 ∧ UInt8.ofNat n.val ≠ 110 ∧ UInt8.ofNat n.val ≠ 116 ∧ UInt8.ofNat n.val ≠ 102) := by decide +kernel
  have := key ⟨c.toNat, c.toNat_lt⟩ h.1 h.2
  simpa using this
theorem itoa_head (n : Int) : ∃ c r, itoa n = c :: r ∧ (c = 45 ∨ isDig c) := by
  unfold itoa
  split
  · exact ⟨45, _, rfl, .inl rfl⟩
  · obtain ⟨c, r, e, h, _⟩ := dec_head n.toNat
    exact ⟨c, r, e, .inr h⟩
theorem text_head (j : J) : ∃ c r, textM j = c :: r ∧ isBlank c = false ∧ c ≠ 93 ∧ c ≠ 125 := by
  obtain ⟨kind, yes, n, s, keys, l⟩ := j
  rw [textM]
  split
  · cases yes
    · exact ⟨102, _, rfl, by decide, by decide, by decide⟩
    · exact ⟨116, _, rfl, by decide, by decide, by decide⟩
  split
  · obtain ⟨c, r, e, h⟩ := itoa_head n
    rcases h with rfl | h
    · exact ⟨45, r, e, by decide, by decide, by decide⟩
    · have := blank_dig h
      exact ⟨c, r, e, this.1, this.2.1, this.2.2.1⟩
  split
  · exact ⟨34, _, rfl, by decide, by decide, by decide⟩
  split
  · exact ⟨91, _, rfl, by decide, by decide, by decide⟩
  split
  · exact ⟨123, _, rfl, by decide, by decide, by decide⟩
  · exact ⟨110, _, rfl, by decide, by decide, by decide⟩
theorem skip_text (j : J) (t : Bs) : skipB (textM j ++ t) = textM j ++ t := by
  obtain ⟨c, r, e, h, _⟩ := text_head j
  rw [e]
  exact skip_head c _ h

theorem pre_self (p t : Bs) : p.isPrefixOf (p ++ t) = true := by rw [List.isPrefixOf_iff_prefix]; exact List.prefix_append p t
theorem pre_cons (a c : UInt8) (p r : Bs) : List.isPrefixOf (a :: p) (c :: r) = (a == c && p.isPrefixOf r) := by simp [List.isPrefixOf]
theorem first_cons (c : UInt8) (r : Bs) : first (c :: r) = (c.toNat : Int) := rfl

theorem leafR_mk (kind : Int) (yes : Bool) (n : Int) (s : Bs) (keys : List Bs) (l : List J) : leafR (.mk kind yes n s keys l) =
    if kind = 0 then (decide (l.length = 0) && decide (keys.length = 0)) && (!yes && decide (n = 0) && decide (s = []))
    else if kind = 1 then (decide (l.length = 0) && decide (keys.length = 0)) && decide (n = 0) && decide (s = [])
    else if kind = 2 then (decide (l.length = 0) && decide (keys.length = 0)) && !yes && decide (s = [])
    else if kind = 3 then (decide (l.length = 0) && decide (keys.length = 0)) && !yes && decide (n = 0) && validD s
    else false := rfl
theorem rightM_mk (k : Nat) (kind : Int) (yes : Bool) (n : Int) (s : Bs) (keys : List Bs) (l : List J) : rightM (k + 1) (.mk kind yes n s keys l) =
    if kind = 4 then (!yes && decide (n = 0) && decide (s = [])) && decide (keys.length = 0) && l.all (rightM k)
    else if kind = 5 then (!yes && decide (n = 0) && decide (s = [])) && decide (keys.length = l.length) && keysB [] keys && l.all (rightM k)
    else leafR (.mk kind yes n s keys l) := rfl
theorem bareB_mk (kind : Int) (yes : Bool) (n : Int) (s : Bs) (keys : List Bs) (l : List J) : bareB (.mk kind yes n s keys l) = (!yes && decide (n = 0) && decide (s = [])) := rfl
theorem eq_nil {α : Type} {l : List α} (h : decide (l.length = 0) = true) : l = [] := List.eq_nil_of_length_eq_zero (by simpa using h)
theorem leaf_text (j : J) (hr : leafR j = true) (hn : numOk j = true) (t : Bs) (ht : noDig t) :
    first (textM j ++ t) ≠ 91 ∧ first (textM j ++ t) ≠ 123 ∧ leafC (textM j ++ t) = .ok (j, t) := by
  obtain ⟨kind, yes, n, s, keys, l⟩ := j
  rw [leafR_mk] at hr
  by_cases h0 : kind = 0
  · subst h0
    simp only [if_true, Bool.and_eq_true, decide_eq_true_eq, Bool.not_eq_true'] at hr
    obtain ⟨⟨hl, hk⟩, ⟨hy, hnn⟩, hs⟩ := hr
    obtain rfl := List.eq_nil_of_length_eq_zero hl
    obtain rfl := List.eq_nil_of_length_eq_zero hk
    subst hy; subst hnn; subst hs
    have e : textM (.mk 0 false 0 [] [] []) = sNull := by rw [textM]; simp
    rw [e]
    refine ⟨by show (110 : Int) ≠ 91; decide, by show (110 : Int) ≠ 123; decide, ?_⟩
    unfold leafC
    rw [if_neg (by show ¬ (110 : Int) = 34; decide), if_pos (pre_self sNull t)]
    rfl
  rw [if_neg h0] at hr
  by_cases h1 : kind = 1
  · subst h1
    simp only [if_true, Bool.and_eq_true, decide_eq_true_eq] at hr
    obtain ⟨⟨⟨hl, hk⟩, hnn⟩, hs⟩ := hr
    obtain rfl := List.eq_nil_of_length_eq_zero hl
    obtain rfl := List.eq_nil_of_length_eq_zero hk
    subst hnn; subst hs
    cases yes with
    | true =>
      have e : textM (.mk 1 true 0 [] [] []) = sTrue := by rw [textM]; simp
      rw [e]
      refine ⟨by show (116 : Int) ≠ 91; decide, by show (116 : Int) ≠ 123; decide, ?_⟩
      unfold leafC
      rw [if_neg (by show ¬ (116 : Int) = 34; decide), if_neg (by show ¬ List.isPrefixOf (110 :: _) (116 :: _) = true; rw [pre_cons]; simp), if_pos (pre_self sTrue t)]
      rfl
    | false =>
      have e : textM (.mk 1 false 0 [] [] []) = sFalse := by rw [textM]; simp
      rw [e]
      refine ⟨by show (102 : Int) ≠ 91; decide, by show (102 : Int) ≠ 123; decide, ?_⟩
      unfold leafC
      rw [if_neg (by show ¬ (102 : Int) = 34; decide), if_neg (by show ¬ List.isPrefixOf (110 :: _) (102 :: _) = true; rw [pre_cons]; simp), if_neg (by show ¬ List.isPrefixOf (116 :: _) (102 :: _) = true; rw [pre_cons]; simp), if_pos (pre_self sFalse t)]
      rfl
  rw [if_neg h1] at hr
  by_cases h2 : kind = 2
  · subst h2
    simp only [if_true, Bool.and_eq_true, decide_eq_true_eq, Bool.not_eq_true'] at hr
    obtain ⟨⟨⟨hl, hk⟩, hy⟩, hs⟩ := hr
    obtain rfl := List.eq_nil_of_length_eq_zero hl
    obtain rfl := List.eq_nil_of_length_eq_zero hk
    subst hy; subst hs
    rw [numOk, Bool.and_eq_true, Bool.and_eq_true, decide_eq_true_eq, decide_eq_true_eq] at hn
    have e : textM (.mk 2 false n [] [] []) = itoa n := by rw [textM]; simp
    rw [e]
    obtain ⟨q1, q2, q3, c, r, q4, q5⟩ := dig_itoa n hn.1.1 hn.1.2 t ht
    have hc : c ≠ 34 ∧ c ≠ 91 ∧ c ≠ 123 ∧ c ≠ 110 ∧ c ≠ 116 ∧ c ≠ 102 := by
      rcases q5 with rfl | h
      · decide
      · have := blank_dig h
        exact ⟨this.2.2.2.1, this.2.2.2.2.1, this.2.2.2.2.2.1, this.2.2.2.2.2.2.1, this.2.2.2.2.2.2.2.1, this.2.2.2.2.2.2.2.2⟩
    have hf : ∀ m : UInt8, c ≠ m → first (itoa n ++ t) ≠ (m.toNat : Int) := by
      intro m hm h
      rw [q4, List.cons_append, first_cons] at h
      exact hm (UInt8.toNat_inj.1 (by omega))
    have hpf : ∀ (m : UInt8) (p : Bs), c ≠ m → ¬ List.isPrefixOf (m :: p) (itoa n ++ t) = true := by
      intro m p hm
      rw [q4, List.cons_append, pre_cons]
      simp
      intro h; exact absurd h.symm hm
    refine ⟨hf 91 hc.2.1, hf 123 hc.2.2.1, ?_⟩
    unfold leafC
    have h34 : ¬ first (itoa n ++ t) = 34 := hf 34 hc.1
    rw [if_neg h34, if_neg (show ¬ List.isPrefixOf sNull (itoa n ++ t) = true from hpf 110 _ hc.2.2.2.1), if_neg (show ¬ List.isPrefixOf sTrue (itoa n ++ t) = true from hpf 116 _ hc.2.2.2.2.1), if_neg (show ¬ List.isPrefixOf sFalse (itoa n ++ t) = true from hpf 102 _ hc.2.2.2.2.2), q2, if_neg (by decide), q1, q3, List.drop_left]
  rw [if_neg h2] at hr
  by_cases h3 : kind = 3
  · subst h3
    simp only [if_true, Bool.and_eq_true, decide_eq_true_eq, Bool.not_eq_true'] at hr
    obtain ⟨⟨⟨⟨hl, hk⟩, hy⟩, hnn⟩, hs⟩ := hr
    obtain rfl := List.eq_nil_of_length_eq_zero hl
    obtain rfl := List.eq_nil_of_length_eq_zero hk
    subst hy; subst hnn
    have e : textM (.mk 3 false 0 s [] []) ++ t = 34 :: (qs s ++ 34 :: t) := by rw [textM]; simp [quoteB]
    rw [e]
    refine ⟨by show (34 : Int) ≠ 91; decide, by show (34 : Int) ≠ 123; decide, ?_⟩
    unfold leafC
    rw [if_pos (by rfl), List.drop_one, List.tail_cons, word_quote s hs t _ (by rw [List.length_append]; omega)]
  · rw [if_neg h3] at hr; cases hr

theorem join_cons2 (x y : Bs) (r : List Bs) (sep : Bs) : join (x :: y :: r) sep = x ++ sep ++ join (y :: r) sep := by
  rw [join_cons, join_cons]; simp [joinTail]
theorem noDig_cons (c : UInt8) (t : Bs) (h : ¬ isDig c) : noDig (c :: t) := fun d r e => by injection e with e _; rw [← e]; exact h
theorem noDig_nil : noDig [] := fun d r e => by cases e
theorem nd44 : ¬ isDig 44 := by unfold isDig; decide
theorem nd93 : ¬ isDig 93 := by unfold isDig; decide
theorem nd125 : ¬ isDig 125 := by unfold isDig; decide

section
variable (val : Bs → Except Int (J × Bs)) (P : J → Prop) (hP : ∀ j, P j → ∀ t, noDig t → val (textM j ++ t) = .ok (j, t))
include hP
theorem loop_list (t : Bs) : ∀ (r : List J) (a : J) (acc : List J) (g : Nat), (∀ j ∈ a :: r, P j) → (join ((a :: r).map textM) [44]).length < g →
    loopC val 4 93 g (join ((a :: r).map textM) [44] ++ 93 :: t) [] acc = .ok (emptyJ 4 [] (acc ++ a :: r), t)
  | [], a, acc, g, hp, hg => by
    obtain ⟨g, rfl⟩ : ∃ m, g = m + 1 := ⟨g - 1, by omega⟩
    rw [List.map_cons, List.map_nil, join_one]
    simp only [loopC, keyC]
    rw [if_neg (by decide), skip_text]
    simp only
    rw [hP a (hp a (by simp)) _ (noDig_cons _ _ nd93)]
    simp only
    rw [skip_head 93 t (by decide), isPre1, if_pos (by decide)]
    rfl
  | b :: r, a, acc, g, hp, hg => by
    obtain ⟨g, rfl⟩ : ∃ m, g = m + 1 := ⟨g - 1, by omega⟩
    rw [List.map_cons, List.map_cons, join_cons2] at hg ⊢
    simp only [loopC, keyC]
    rw [if_neg (by decide), List.append_assoc, List.append_assoc, skip_text]
    simp only [List.cons_append, List.nil_append]
    rw [hP a (hp a (by simp)) _ (noDig_cons _ _ nd44)]
    simp only
    rw [skip_head 44 _ (by decide), isPre1, isPre1, if_neg (by decide), if_pos (by decide), List.drop_one, List.tail_cons]
    have := loop_list t r b (acc ++ [a]) g (fun j hj => hp j (by simp only [List.mem_cons] at hj ⊢; exact .inr hj)) (by simp at hg ⊢; omega)
    rw [List.map_cons] at this
    rw [this]
    simp
theorem items_list (t : Bs) (l : List J) (hp : ∀ j ∈ l, P j) : itemsC val 4 93 (join (l.map textM) [44] ++ 93 :: t) = .ok (emptyJ 4 [] l, t) := by
  unfold itemsC
  cases l with
  | nil =>
    rw [List.map_nil, join_nil, List.nil_append, skip_head 93 t (by decide), isPre1, if_pos (by decide)]
    rfl
  | cons a r =>
    have hs : skipB (join ((a :: r).map textM) [44] ++ 93 :: t) = join ((a :: r).map textM) [44] ++ 93 :: t ∧ ¬ List.isPrefixOf [93] (join ((a :: r).map textM) [44] ++ 93 :: t) = true := by
      obtain ⟨c, x, e, h1, h2, h3⟩ := text_head a
      rw [List.map_cons, join_cons, e]
      simp only [List.cons_append]
      exact ⟨skip_head c _ h1, by rw [isPre1]; simpa using fun e => h2 e.symm⟩
    rw [hs.1, if_neg hs.2, loop_list val P hP t r a [] _ hp (by rw [List.length_append]; omega)]
    rfl
theorem loop_obj (t : Bs) : ∀ (r : List J) (kr : List Bs) (a : J) (ka : Bs) (pre : List Bs) (acc : List J) (g : Nat), (∀ j ∈ a :: r, P j) → kr.length = r.length → keysB pre (ka :: kr) = true →
    (join (pairsM (ka :: kr) ((a :: r).map textM)) [44]).length < g →
    loopC val 5 125 g (join (pairsM (ka :: kr) ((a :: r).map textM)) [44] ++ 125 :: t) pre acc = .ok (emptyJ 5 (pre ++ ka :: kr) (acc ++ a :: r), t)
  | [], kr, a, ka, pre, acc, g, hp, hk, hv, hg => by
    obtain ⟨g, rfl⟩ : ∃ m, g = m + 1 := ⟨g - 1, by omega⟩
    obtain rfl := List.eq_nil_of_length_eq_zero hk
    simp only [keysB, Bool.and_eq_true, decide_eq_true_eq] at hv
    rw [List.map_cons, List.map_nil, pairsM, List.zipWith_cons_cons, List.zipWith_nil_left, join_one]
    simp only [quoteB, List.cons_append]
    simp only [loopC, keyC]
    rw [if_pos trivial, skip_head 34 _ (by decide), isPre1, if_pos (by decide), List.drop_one, List.tail_cons, List.append_assoc, List.append_assoc]
    simp only [List.cons_append, List.nil_append]
    rw [word_quote ka hv.1.1 _ _ (by rw [List.length_append]; omega)]
    simp only
    rw [if_neg hv.1.2, skip_head 58 _ (by decide), isPre1, if_pos (by decide), List.drop_one, List.tail_cons, skip_text]
    simp only
    rw [hP a (hp a (by simp)) _ (noDig_cons _ _ nd125)]
    simp only
    rw [skip_head 125 t (by decide), isPre1, if_pos (by decide)]
    rfl
  | b :: r, kr, a, ka, pre, acc, g, hp, hk, hv, hg => by
    obtain ⟨g, rfl⟩ : ∃ m, g = m + 1 := ⟨g - 1, by omega⟩
    obtain ⟨kb, kr, rfl⟩ : ∃ kb kr', kr = kb :: kr' := by cases kr with
      | nil => simp at hk
      | cons x y => exact ⟨x, y, rfl⟩
    have hv' := hv
    rw [keysB, Bool.and_eq_true, Bool.and_eq_true, decide_eq_true_eq] at hv
    have e : pairsM (ka :: kb :: kr) ((a :: b :: r).map textM) = (quoteB ka ++ 58 :: textM a) :: pairsM (kb :: kr) ((b :: r).map textM) := by
      rw [List.map_cons, pairsM, List.zipWith_cons_cons]; rfl
    have e2 : ∃ y ys, pairsM (kb :: kr) ((b :: r).map textM) = y :: ys := ⟨_, _, by rw [List.map_cons, pairsM, List.zipWith_cons_cons]⟩
    obtain ⟨y, ys, e2⟩ := e2
    rw [e, e2, join_cons2, ← e2] at hg ⊢
    generalize hW : join (pairsM (kb :: kr) ((b :: r).map textM)) [44] = W at hg ⊢
    simp only [quoteB, List.cons_append]
    simp only [loopC, keyC]
    rw [if_pos trivial, skip_head 34 _ (by decide), isPre1, if_pos (by decide), List.drop_one, List.tail_cons]
    simp only [List.append_assoc, List.cons_append, List.nil_append]
    rw [word_quote ka hv.1.1 _ _ (by rw [List.length_append]; omega)]
    simp only
    rw [if_neg hv.1.2, skip_head 58 _ (by decide), isPre1, if_pos (by decide), List.drop_one, List.tail_cons, skip_text]
    simp only
    rw [hP a (hp a (by simp)) _ (noDig_cons _ _ nd44)]
    simp only
    rw [skip_head 44 _ (by decide), isPre1, isPre1, if_neg (by decide), if_pos (by decide), List.drop_one, List.tail_cons, ← hW]
    rw [loop_obj t r kr b kb (pre ++ [ka]) (acc ++ [a]) g (fun j hj => hp j (by simp only [List.mem_cons] at hj ⊢; exact .inr hj)) (by simpa using hk) hv.2 (by rw [hW]; simp at hg ⊢; omega)]
    simp
theorem items_obj (t : Bs) (l : List J) (ks : List Bs) (hk : ks.length = l.length) (hv : keysB [] ks = true) (hp : ∀ j ∈ l, P j) : itemsC val 5 125 (join (pairsM ks (l.map textM)) [44] ++ 125 :: t) = .ok (emptyJ 5 ks l, t) := by
  unfold itemsC
  cases l with
  | nil =>
    obtain rfl := List.eq_nil_of_length_eq_zero hk
    rw [List.map_nil, pairsM, List.zipWith_nil_left, join_nil, List.nil_append, skip_head 125 t (by decide), isPre1, if_pos (by decide)]
    rfl
  | cons a r =>
    obtain ⟨ka, kr, rfl⟩ : ∃ kb kr', ks = kb :: kr' := by cases ks with
      | nil => simp at hk
      | cons x y => exact ⟨x, y, rfl⟩
    have hs : skipB (join (pairsM (ka :: kr) ((a :: r).map textM)) [44] ++ 125 :: t) = join (pairsM (ka :: kr) ((a :: r).map textM)) [44] ++ 125 :: t ∧ ¬ List.isPrefixOf [125] (join (pairsM (ka :: kr) ((a :: r).map textM)) [44] ++ 125 :: t) = true := by
      rw [List.map_cons, pairsM, List.zipWith_cons_cons, join_cons]
      simp only [quoteB, List.cons_append]
      exact ⟨skip_head 34 _ (by decide), by rw [isPre1]; decide⟩
    rw [hs.1, if_neg hs.2, loop_obj val P hP t r kr a ka [] [] _ hp (by simpa using hk) hv (by rw [List.length_append]; omega)]
    rfl
end

theorem bare_mk {kind n : Int} {yes : Bool} {s : Bs} {keys : List Bs} {l : List J} (h : bareB (.mk kind yes n s keys l) = true) : (.mk kind yes n s keys l : J) = emptyJ kind keys l := by
  rw [bareB_mk] at h
  simp only [Bool.and_eq_true, Bool.not_eq_true', decide_eq_true_eq] at h
  obtain ⟨⟨rfl, rfl⟩, rfl⟩ := h
  rfl
/-- A right value's text is read as the value. -/
theorem val_text : ∀ (k : Nat) (j : J), rightM k j = true → numOk j = true → ∀ t, noDig t → valC k (textM j ++ t) = .ok (j, t)
  | 0, j, hr, hn, t, ht => by
    obtain ⟨h1, h2, h3⟩ := leaf_text j hr hn t ht
    simp only [valC]
    rw [if_neg h1, if_neg h2, h3]
  | k + 1, j, hr, hn, t, ht => by
    have leaf : leafR j = true → valC (k + 1) (textM j ++ t) = .ok (j, t) := by
      intro hr
      obtain ⟨h1, h2, h3⟩ := leaf_text j hr hn t ht
      simp only [valC]
      rw [if_neg h1, if_neg h2, h3]
    have ih : ∀ l : List J, l.all (rightM k) = true → numsOk l = true → ∀ x ∈ l, (rightM k x = true ∧ numOk x = true) := by
      intro l h1 h2 x hx
      rw [numsOk_all] at h2
      exact ⟨List.all_eq_true.1 h1 x hx, List.all_eq_true.1 h2 x hx⟩
    have hv : ∀ j, rightM k j = true ∧ numOk j = true → ∀ t, noDig t → valC k (textM j ++ t) = .ok (j, t) := fun j h t ht => val_text k j h.1 h.2 t ht
    obtain ⟨kind, yes, n, s, keys, l⟩ := j
    rw [rightM_mk] at hr
    rw [numOk, Bool.and_eq_true] at hn
    by_cases h4 : kind = 4
    · subst h4
      rw [if_pos rfl, Bool.and_eq_true, Bool.and_eq_true] at hr
      obtain ⟨⟨hb, hk⟩, ha⟩ := hr
      obtain rfl := eq_nil hk
      rw [bare_mk (kind := _) hb]
      have e : textM (emptyJ 4 [] l) ++ t = 91 :: (join (l.map textM) [44] ++ 93 :: t) := by unfold emptyJ; rw [textM, textsM_map]; simp
      rw [e]
      simp only [valC]
      rw [if_pos (by rfl), List.drop_one, List.tail_cons]
      exact items_list (valC k) _ hv t l (ih l ha hn.2)
    rw [if_neg h4] at hr
    by_cases h5 : kind = 5
    · subst h5
      rw [if_pos rfl, Bool.and_eq_true, Bool.and_eq_true, Bool.and_eq_true, decide_eq_true_eq] at hr
      obtain ⟨⟨⟨hb, hk⟩, hkb⟩, ha⟩ := hr
      rw [bare_mk (kind := _) hb]
      have e : textM (emptyJ 5 keys l) ++ t = 123 :: (join (pairsM keys (l.map textM)) [44] ++ 125 :: t) := by unfold emptyJ; rw [textM, textsM_map]; simp
      rw [e]
      simp only [valC]
      rw [if_neg (by show ¬ (123 : Int) = 91; decide), if_pos (by rfl), List.drop_one, List.tail_cons]
      exact items_obj (valC k) _ hv t l keys hk hkb (ih l ha hn.2)
    · rw [if_neg h5] at hr
      exact leaf hr
theorem parse_text (j : J) (hr : rightM 64 j = true) (hn : numOk j = true) : parseC (textM j) = (j, 0) := by
  have h := val_text 64 j hr hn [] noDig_nil
  rw [List.append_nil] at h
  unfold parseC
  have hs := skip_text j []
  rw [List.append_nil] at hs
  rw [hs, h]
  rfl
end Go.Proofs.YtakgcaehkphepaaGreatDoor
