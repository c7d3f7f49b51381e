/- Plain law: what is read is right; what stands behind does not matter. No program here. -/
import Derived.Test.YtakgcaehkphepaaGreatDoorPf
namespace Go.Proofs.YtakgcaehkphepaaGreatDoor
open Go.Lib
set_option linter.unusedVariables false
set_option linter.unusedSimpArgs false

theorem keysB_snoc (k : Bs) : ∀ (ks pre : List Bs), keysB pre (ks ++ [k]) = (keysB pre ks && (validD k && decide (k ∉ pre ++ ks)))
  | [], pre => by simp [keysB]
  | a :: r, pre => by
    rw [List.cons_append]
    simp only [keysB]
    rw [keysB_snoc k r (pre ++ [a])]
    simp [Bool.and_assoc]
theorem keyC_good {kind : Int} {s : Bs} {ks ks' : List Bs} {q : Bs} (h : keyC kind s ks = .ok (ks', q)) (hk : keysB [] ks = true) :
    keysB [] ks' = true ∧ (kind = 5 → ks'.length = ks.length + 1) ∧ (kind ≠ 5 → ks' = ks) := by
  unfold keyC at h
  split at h
  · rename_i h5
    split at h
    · split at h
      · cases h
      · rename_i k q' hw
        split at h
        · cases h
        · rename_i hm
          split at h
          · simp only [Except.ok.injEq, Prod.mk.injEq] at h
            obtain ⟨rfl, _⟩ := h
            refine ⟨?_, fun _ => by simp, fun h => absurd h5 h⟩
            rw [keysB_snoc, hk, wordC_valid _ _ _ _ hw]
            simpa using hm
          · cases h
    · cases h
  · rename_i h5
    simp only [Except.ok.injEq, Prod.mk.injEq] at h
    obtain ⟨rfl, _⟩ := h
    exact ⟨hk, fun h => absurd h h5, fun _ => rfl⟩
theorem loop_good (c : Bs → Except Int (J × Bs)) (P : J → Prop) (hP : ∀ s x q, c s = .ok (x, q) → P x) (kind : Int) (cl : UInt8) :
    ∀ (g : Nat) (s : Bs) (ks : List Bs) (l : List J) (j : J) (q : Bs), loopC c kind cl g s ks l = .ok (j, q) → keysB [] ks = true → (kind = 5 → ks.length = l.length) → (kind ≠ 5 → ks = []) → (∀ x ∈ l, P x) →
      ∃ ks' l', j = emptyJ kind ks' l' ∧ keysB [] ks' = true ∧ (kind = 5 → ks'.length = l'.length) ∧ (kind ≠ 5 → ks' = []) ∧ ∀ x ∈ l', P x
  | 0, s, ks, l, j, q, h, _, _, _, _ => by cases h
  | g + 1, s, ks, l, j, q, h, h1, h2, h3, h4 => by
    simp only [loopC] at h
    split at h
    · cases h
    · rename_i ks' s1 hkc
      obtain ⟨g1, g2, g3⟩ := keyC_good hkc h1
      split at h
      · cases h
      · rename_i x s2 hc
        have e2 : kind = 5 → ks'.length = (l ++ [x]).length := fun e => by rw [g2 e, h2 e]; simp
        have e3 : kind ≠ 5 → ks' = [] := fun e => (g3 e).trans (h3 e)
        have e4 : ∀ y ∈ l ++ [x], P y := fun y hy => by
          rw [List.mem_append, List.mem_singleton] at hy
          rcases hy with hy | rfl
          · exact h4 y hy
          · exact hP _ _ _ hc
        split at h
        · simp only [Except.ok.injEq, Prod.mk.injEq] at h
          obtain ⟨rfl, _⟩ := h
          exact ⟨_, _, rfl, g1, e2, e3, e4⟩
        · split at h
          · exact loop_good c P hP kind cl g _ _ _ _ _ h g1 e2 e3 e4
          · cases h
theorem items_good (c : Bs → Except Int (J × Bs)) (P : J → Prop) (hP : ∀ s x q, c s = .ok (x, q) → P x) (kind : Int) (cl : UInt8) (s : Bs) (j : J) (q : Bs) (h : itemsC c kind cl s = .ok (j, q)) :
    ∃ ks' l', j = emptyJ kind ks' l' ∧ keysB [] ks' = true ∧ (kind = 5 → ks'.length = l'.length) ∧ (kind ≠ 5 → ks' = []) ∧ ∀ x ∈ l', P x := by
  unfold itemsC at h
  split at h
  · simp only [Except.ok.injEq, Prod.mk.injEq] at h
    obtain ⟨rfl, _⟩ := h
    exact ⟨[], [], rfl, rfl, fun _ => rfl, fun _ => rfl, fun x hx => by cases hx⟩
  · exact loop_good c P hP kind cl _ _ _ _ _ _ h rfl (fun _ => rfl) (fun _ => rfl) (fun x hx => by cases hx)
theorem okI_range {s : Bs} (h : okI s = true) : -9223372036854775808 ≤ numI s ∧ numI s ≤ 9223372036854775807 := by
  unfold okI at h
  unfold numI
  cases hp : parseIntB 64 s with
  | «syntax» => rw [hp] at h; cases h
  | range => rw [hp] at h; cases h
  | ok v =>
    simp only
    cases s with
    | nil => cases hp
    | cons c r =>
      by_cases h45 : c.toNat = 45
      · obtain rfl : c = 45 := UInt8.toNat_inj.1 (by simpa using h45)
        rw [parseIntB_minus] at hp
        unfold signedC at hp
        split at hp
        · cases hp
        · cases hp
        · split at hp
          · cases hp
          · injection hp with hp; omega
      · by_cases h43 : c.toNat = 43
        · obtain rfl : c = 43 := UInt8.toNat_inj.1 (by simpa using h43)
          rw [parseIntB_plus] at hp
          unfold signlessC at hp
          split at hp
          · cases hp
          · cases hp
          · split at hp
            · cases hp
            · injection hp with hp; omega
        · rw [parseIntB_plain 64 c r h43 h45] at hp
          unfold signlessC at hp
          split at hp
          · cases hp
          · cases hp
          · split at hp
            · cases hp
            · injection hp with hp; omega
theorem bad_ok {s : Bs} (h : digBad s = false) : okI (digText s) = true := by
  unfold digBad at h
  cases hk : okI (digText s) with
  | true => rfl
  | false => rw [hk] at h; simp at h
theorem leafC_good (s : Bs) (j : J) (q : Bs) (h : leafC s = .ok (j, q)) : leafR j = true ∧ numOk j = true := by
  unfold leafC at h
  split at h
  · split at h
    · cases h
    · rename_i hw
      simp only [Except.ok.injEq, Prod.mk.injEq] at h
      obtain ⟨rfl, _⟩ := h
      rw [leafR_mk]
      refine ⟨?_, rfl⟩
      rw [if_neg (by decide), if_neg (by decide), if_neg (by decide), if_pos rfl, wordC_valid _ _ _ _ hw]
      rfl
  · split at h
    · simp only [Except.ok.injEq, Prod.mk.injEq] at h; obtain ⟨rfl, _⟩ := h; exact ⟨rfl, rfl⟩
    · split at h
      · simp only [Except.ok.injEq, Prod.mk.injEq] at h; obtain ⟨rfl, _⟩ := h; exact ⟨rfl, rfl⟩
      · split at h
        · simp only [Except.ok.injEq, Prod.mk.injEq] at h; obtain ⟨rfl, _⟩ := h; exact ⟨rfl, rfl⟩
        · split at h
          · cases h
          · rename_i hb
            simp only [Except.ok.injEq, Prod.mk.injEq] at h
            obtain ⟨rfl, _⟩ := h
            have hr := okI_range (bad_ok (by simpa using hb))
            rw [leafR_mk]
            refine ⟨rfl, ?_⟩
            rw [numOk]
            simp [numsOk, hr]
theorem leaf_right (k : Nat) (j : J) (h : leafR j = true) : rightM k j = true := by
  cases k with
  | zero => exact h
  | succ k =>
    obtain ⟨kind, yes, n, s, keys, l⟩ := j
    rw [rightM_mk]
    have h4 : kind ≠ 4 := by rintro rfl; exact absurd h (by rw [leafR_mk]; simp)
    have h5 : kind ≠ 5 := by rintro rfl; exact absurd h (by rw [leafR_mk]; simp)
    rw [if_neg h4, if_neg h5]; exact h
theorem all_of {α : Type} {p : α → Bool} {l : List α} (h : ∀ x ∈ l, p x = true) : l.all p = true := List.all_eq_true.2 h
/-- What is read is right. -/
theorem val_good : ∀ (k : Nat) (s : Bs) (j : J) (q : Bs), valC k s = .ok (j, q) → rightM k j = true ∧ numOk j = true
  | 0, s, j, q, h => by
    simp only [valC] at h
    split at h
    · cases h
    · split at h
      · cases h
      · exact leafC_good _ _ _ h
  | k + 1, s, j, q, h => by
    simp only [valC] at h
    split at h
    · obtain ⟨ks, l, rfl, h1, _, h3, h4⟩ := items_good (valC k) (fun j => rightM k j = true ∧ numOk j = true) (val_good k) _ _ _ _ _ h
      obtain rfl := h3 (by decide)
      unfold emptyJ
      rw [rightM_mk, numOk, numsOk_all]
      refine ⟨?_, ?_⟩
      · rw [if_pos rfl, all_of (fun x hx => (h4 x hx).1)]; rfl
      · rw [all_of (fun x hx => (h4 x hx).2)]; rfl
    · split at h
      · obtain ⟨ks, l, rfl, h1, h2, _, h4⟩ := items_good (valC k) (fun j => rightM k j = true ∧ numOk j = true) (val_good k) _ _ _ _ _ h
        unfold emptyJ
        rw [rightM_mk, numOk, numsOk_all]
        refine ⟨?_, ?_⟩
        · rw [if_neg (by decide), if_pos rfl, all_of (fun x hx => (h4 x hx).1), h1, decide_eq_true (h2 rfl)]; rfl
        · rw [all_of (fun x hx => (h4 x hx).2)]; rfl
      · obtain ⟨h1, h2⟩ := leafC_good _ _ _ h
        exact ⟨leaf_right _ _ h1, h2⟩

/-! ### What stands behind -/
theorem leafC_ne (s : Bs) (j : J) (q : Bs) (h : leafC s = .ok (j, q)) : s ≠ [] := by
  rintro rfl
  unfold leafC at h
  have e : digBad [] = true := rfl
  rw [e] at h
  cases h
theorem valC_ne (k : Nat) (s : Bs) (j : J) (q : Bs) (h : valC k s = .ok (j, q)) : s ≠ [] := by
  rintro rfl
  cases k with
  | zero =>
    have h : leafC [] = .ok (j, q) := h
    exact leafC_ne _ _ _ h rfl
  | succ k =>
    have h : leafC [] = .ok (j, q) := h
    exact leafC_ne _ _ _ h rfl
theorem pre_app {p s : Bs} (z : Bs) (h : p.isPrefixOf s = true) : p.isPrefixOf (s ++ z) = true := by
  rw [List.isPrefixOf_iff_prefix] at h ⊢
  exact h.trans (List.prefix_append s z)
theorem first_app {s : Bs} (z : Bs) (h : s ≠ []) : first (s ++ z) = first s := by
  cases s with
  | nil => exact absurd rfl h
  | cons c r => rfl
theorem pre1_app {s : Bs} (a : UInt8) (z : Bs) (h : s ≠ []) : List.isPrefixOf [a] (s ++ z) = List.isPrefixOf [a] s := by
  cases s with
  | nil => exact absurd rfl h
  | cons c r => rw [List.cons_append, isPre1, isPre1]
theorem skip_app {s : Bs} (z : Bs) (h : skipB s ≠ []) : skipB (s ++ z) = skipB s ++ z := by
  unfold skipB at h ⊢
  induction s with
  | nil => exact absurd rfl h
  | cons c r ih =>
    rw [List.cons_append, List.dropWhile_cons, List.dropWhile_cons] at *
    split
    · rename_i hb
      rw [if_pos hb] at h
      exact ih h
    · rfl
theorem pre_ne {a : UInt8} {s : Bs} (h : List.isPrefixOf [a] s = true) : s ≠ [] := by rintro rfl; cases h
theorem drop1_app {s : Bs} (z : Bs) (h : s ≠ []) : (s ++ z).drop 1 = s.drop 1 ++ z := by
  cases s with
  | nil => exact absurd rfl h
  | cons c r => rfl
theorem trimD_app (s z : Bs) (hz : noDig z) : trimD (s ++ z) = trimD s ++ z := by
  show (s ++ z).dropWhile (digits10.contains ·) = s.dropWhile (digits10.contains ·) ++ z
  induction s with
  | nil =>
    cases z with
    | nil => rfl
    | cons c r =>
      rw [List.nil_append, List.dropWhile_cons, if_neg]
      · rfl
      · intro h; exact hz c r rfl ((mem_digits10 c).1 h)
  | cons c r ih =>
    rw [List.cons_append, List.dropWhile_cons, List.dropWhile_cons]
    split
    · exact ih
    · rfl
theorem dig_app (s z : Bs) (hs : s ≠ []) (hz : noDig z) : digText (s ++ z) = digText s ∧ digBad (s ++ z) = digBad s := by
  have hc : cutPre (s ++ z) [45] = cutPre s [45] ++ z := by
    unfold cutPre
    rw [pre1_app 45 z hs]
    split
    · rw [show ([45] : Bs).length = 1 from rfl, drop1_app z hs]
    · rfl
  have hl : (cutPre s [45]).length ≤ s.length := by
    unfold cutPre
    split
    · simp
    · exact Nat.le_refl _
  have hd : digN (s ++ z) = digN s := by
    unfold digN
    rw [hc, trimD_app _ _ hz, List.length_append, List.length_append]; omega
  have hn : digN s ≤ (cutPre s [45]).length := by unfold digN; omega
  have ht : digText (s ++ z) = digText s := by
    unfold digText
    rw [hc, hd, List.length_append, List.length_append, show s.length + z.length - ((cutPre s [45]).length + z.length) + digN s = s.length - (cutPre s [45]).length + digN s by omega,
      List.take_append_of_le_length (by omega)]
  refine ⟨ht, ?_⟩
  unfold digBad
  rw [ht, hc, hd, List.take_append_of_le_length hn]
theorem dig_head (s : Bs) (h : digBad s = false) : ∃ c r, s = c :: r ∧ (c = 45 ∨ isDig c) := by
  have hk := bad_ok h
  cases s with
  | nil => cases h
  | cons c r =>
    refine ⟨c, r, rfl, ?_⟩
    by_cases h45 : c = 45
    · exact .inl h45
    · right
      apply Classical.byContradiction
      intro hd
      have hc := cut_other c r h45
      have htr : trimD (c :: r) = c :: r := by
        show (c :: r).dropWhile (digits10.contains ·) = _
        rw [List.dropWhile_cons, if_neg (fun h => hd ((mem_digits10 c).1 h))]
      have hn : digN (c :: r) = 0 := by unfold digN; rw [hc, htr, Nat.sub_self]
      have ht : digText (c :: r) = [] := by unfold digText; rw [hc, hn, Nat.sub_self]; rfl
      rw [ht] at hk
      cases hk
theorem leafC_app (s z : Bs) (hz : noDig z) (j : J) (q : Bs) (h : leafC s = .ok (j, q)) : leafC (s ++ z) = .ok (j, q ++ z) := by
  have hs := leafC_ne _ _ _ h
  unfold leafC at h ⊢
  rw [first_app z hs]
  split at h
  · rename_i h34
    rw [if_pos h34, drop1_app z hs]
    split at h
    · cases h
    · rename_i x q' hw
      simp only [Except.ok.injEq, Prod.mk.injEq] at h
      rw [wordC_app z _ _ _ _ hw _ (by rw [List.length_append]; omega)]
      simp only [Except.ok.injEq, Prod.mk.injEq]
      exact ⟨h.1, by rw [h.2]⟩
  · rename_i h34
    rw [if_neg h34]
    have lit : ∀ (p : Bs) (x : J), p.isPrefixOf s = true → (.ok (x, s.drop p.length) : Except Int (J × Bs)) = .ok (j, q) → (.ok (x, (s ++ z).drop p.length) : Except Int (J × Bs)) = .ok (j, q ++ z) := by
      intro p x hp h
      simp only [Except.ok.injEq, Prod.mk.injEq] at h ⊢
      exact ⟨h.1, by rw [List.drop_append_of_le_length (isPre_len hp), h.2]⟩
    have no : ∀ (a : UInt8) (p : Bs), digBad s = false → a ≠ 45 → ¬ isDig a → ¬ List.isPrefixOf (a :: p) (s ++ z) = true := by
      intro a p hb h45 hd hp
      obtain ⟨c, r, rfl, hc⟩ := dig_head s hb
      rw [List.cons_append, pre_cons, Bool.and_eq_true, beq_iff_eq] at hp
      obtain ⟨rfl, _⟩ := hp
      rcases hc with hc | hc
      · exact h45 hc
      · exact hd hc
    split at h
    · rename_i hp
      rw [if_pos (pre_app z hp)]
      exact lit sNull nullJ hp h
    · rename_i hp0
      split at h
      · rename_i hp
        have : ¬ sNull.isPrefixOf (s ++ z) = true := by
          intro h'
          cases s with
          | nil => exact hs rfl
          | cons c r =>
            unfold sNull at h'
            unfold sTrue at hp
            rw [List.cons_append, pre_cons, Bool.and_eq_true, beq_iff_eq] at h'
            rw [pre_cons, Bool.and_eq_true, beq_iff_eq] at hp
            rw [← h'.1] at hp
            exact absurd hp.1 (by decide)
        rw [if_neg this, if_pos (pre_app z hp)]
        exact lit sTrue _ hp h
      · split at h
        · rename_i hp
          have h1 : ¬ sNull.isPrefixOf (s ++ z) = true := by
            intro h'
            cases s with
            | nil => exact hs rfl
            | cons c r =>
              unfold sNull at h'
              unfold sFalse at hp
              rw [List.cons_append, pre_cons, Bool.and_eq_true, beq_iff_eq] at h'
              rw [pre_cons, Bool.and_eq_true, beq_iff_eq] at hp
              rw [← h'.1] at hp
              exact absurd hp.1 (by decide)
          have h2 : ¬ sTrue.isPrefixOf (s ++ z) = true := by
            intro h'
            cases s with
            | nil => exact hs rfl
            | cons c r =>
              unfold sTrue at h'
              unfold sFalse at hp
              rw [List.cons_append, pre_cons, Bool.and_eq_true, beq_iff_eq] at h'
              rw [pre_cons, Bool.and_eq_true, beq_iff_eq] at hp
              rw [← h'.1] at hp
              exact absurd hp.1 (by decide)
          rw [if_neg h1, if_neg h2, if_pos (pre_app z hp)]
          exact lit sFalse _ hp h
        · split at h
          · cases h
          · rename_i hb
            have hb' : digBad s = false := by simpa using hb
            obtain ⟨e1, e2⟩ := dig_app s z hs hz
            simp only [Except.ok.injEq, Prod.mk.injEq] at h
            rw [if_neg (show ¬ List.isPrefixOf sNull (s ++ z) = true from no 110 _ hb' (by decide) (by unfold isDig; decide)), if_neg (show ¬ List.isPrefixOf sTrue (s ++ z) = true from no 116 _ hb' (by decide) (by unfold isDig; decide)), if_neg (show ¬ List.isPrefixOf sFalse (s ++ z) = true from no 102 _ hb' (by decide) (by unfold isDig; decide)), e1, e2, hb', if_neg (by decide)]
            simp only [Except.ok.injEq, Prod.mk.injEq]
            refine ⟨h.1, ?_⟩
            rw [List.drop_append_of_le_length, h.2]
            unfold digText
            rw [List.length_take]; omega
theorem keyC_app (kind : Int) (s z : Bs) (ks ks' : List Bs) (q : Bs) (h : keyC kind s ks = .ok (ks', q)) (hq : q ≠ []) : keyC kind (s ++ z) ks = .ok (ks', q ++ z) := by
  unfold keyC at h ⊢
  split at h
  · rename_i h5
    rw [if_pos h5]
    split at h
    · rename_i hp
      have hne := pre_ne hp
      rw [skip_app z hne, if_pos (pre_app z hp), drop1_app z hne]
      split at h
      · cases h
      · rename_i k q' hw
        rw [wordC_app z _ _ _ _ hw _ (by rw [List.length_append]; omega)]
        simp only
        split at h
        · cases h
        · rename_i hm
          rw [if_neg hm]
          split at h
          · rename_i hp2
            have hne2 := pre_ne hp2
            simp only [Except.ok.injEq, Prod.mk.injEq] at h
            rw [skip_app z hne2, if_pos (pre_app z hp2), drop1_app z hne2, skip_app z (by rw [h.2]; exact hq)]
            simp only [Except.ok.injEq, Prod.mk.injEq]
            exact ⟨h.1, by rw [h.2]⟩
          · cases h
    · cases h
  · rename_i h5
    rw [if_neg h5]
    simp only [Except.ok.injEq, Prod.mk.injEq] at h ⊢
    exact ⟨h.1, by rw [skip_app z (by rw [h.2]; exact hq), h.2]⟩
theorem loopC_app (z : Bs) (c : Bs → Except Int (J × Bs)) (hn : ∀ s x q, c s = .ok (x, q) → s ≠ []) (hc : ∀ s x q, c s = .ok (x, q) → c (s ++ z) = .ok (x, q ++ z)) (kind : Int) (cl : UInt8) :
    ∀ (g : Nat) (s : Bs) (ks : List Bs) (l : List J) (j : J) (q : Bs), loopC c kind cl g s ks l = .ok (j, q) → ∀ g', g ≤ g' → loopC c kind cl g' (s ++ z) ks l = .ok (j, q ++ z)
  | 0, s, ks, l, j, q, h, _, _ => by cases h
  | g + 1, s, ks, l, j, q, h, g', hg => by
    obtain ⟨g', rfl⟩ : ∃ m, g' = m + 1 := ⟨g' - 1, by omega⟩
    simp only [loopC] at h ⊢
    split at h
    · cases h
    · rename_i ks' s1 hkc
      split at h
      · cases h
      · rename_i x s2 hcc
        rw [keyC_app _ _ z _ _ _ hkc (hn _ _ _ hcc)]
        simp only
        rw [hc _ _ _ hcc]
        simp only
        split at h
        · rename_i hp
          have hne := pre_ne hp
          simp only [Except.ok.injEq, Prod.mk.injEq] at h
          rw [skip_app z hne, if_pos (pre_app z hp), drop1_app z hne]
          simp only [Except.ok.injEq, Prod.mk.injEq]
          exact ⟨h.1, by rw [h.2]⟩
        · rename_i hp0
          split at h
          · rename_i hp
            have hne := pre_ne hp
            rw [skip_app z hne, pre1_app cl z hne, if_neg hp0, pre1_app 44 z hne, if_pos hp, drop1_app z hne]
            exact loopC_app z c hn hc kind cl g _ _ _ _ _ h g' (by omega)
          · cases h
theorem itemsC_app (z : Bs) (c : Bs → Except Int (J × Bs)) (hn : ∀ s x q, c s = .ok (x, q) → s ≠ []) (hc : ∀ s x q, c s = .ok (x, q) → c (s ++ z) = .ok (x, q ++ z)) (kind : Int) (cl : UInt8) (s : Bs) (j : J) (q : Bs) (h : itemsC c kind cl s = .ok (j, q)) : itemsC c kind cl (s ++ z) = .ok (j, q ++ z) := by
  unfold itemsC at h ⊢
  split at h
  · rename_i hp
    have hne := pre_ne hp
    simp only [Except.ok.injEq, Prod.mk.injEq] at h
    rw [skip_app z hne, if_pos (pre_app z hp), drop1_app z hne]
    simp only [Except.ok.injEq, Prod.mk.injEq]
    exact ⟨h.1, by rw [h.2]⟩
  · rename_i hp0
    have hne : skipB s ≠ [] := by
      intro e
      rw [e] at h
      simp only [List.length_nil, loopC] at h
      split at h
      · cases h
      · rename_i ks' s1 hkc
        have := keyC_len _ _ _ _ _ hkc
        have hs1 : s1 = [] := List.eq_nil_of_length_eq_zero (by simpa using this)
        split at h
        · cases h
        · rename_i hcc
          exact hn _ _ _ hcc hs1
    rw [skip_app z hne, pre1_app cl z hne, if_neg hp0]
    exact loopC_app z c hn hc kind cl _ _ _ _ _ _ h _ (by rw [List.length_append]; omega)
theorem valC_app (z : Bs) (hz : noDig z) : ∀ (k : Nat) (s : Bs) (j : J) (q : Bs), valC k s = .ok (j, q) → valC k (s ++ z) = .ok (j, q ++ z)
  | 0, s, j, q, h => by
    have hs := valC_ne _ _ _ _ h
    simp only [valC] at h ⊢
    rw [first_app z hs]
    split at h
    · cases h
    · rename_i h1
      rw [if_neg h1]
      split at h
      · cases h
      · rename_i h2
        rw [if_neg h2]
        exact leafC_app s z hz j q h
  | k + 1, s, j, q, h => by
    have hs := valC_ne _ _ _ _ h
    simp only [valC] at h ⊢
    rw [first_app z hs]
    split at h
    · rename_i h1
      rw [if_pos h1, drop1_app z hs]
      exact itemsC_app z (valC k) (valC_ne k) (valC_app z hz k) _ _ _ _ _ h
    · rename_i h1
      rw [if_neg h1]
      split at h
      · rename_i h2
        rw [if_pos h2, drop1_app z hs]
        exact itemsC_app z (valC k) (valC_ne k) (valC_app z hz k) _ _ _ _ _ h
      · rename_i h2
        rw [if_neg h2]
        exact leafC_app s z hz j q h
theorem skip_nil_app {s : Bs} (c : UInt8) (hc : isBlank c = true) (h : skipB s = []) : skipB (s ++ [c]) = [] := by
  unfold skipB at h ⊢
  induction s with
  | nil => simp [hc]
  | cons d r ih =>
    rw [List.dropWhile_cons] at h
    rw [List.cons_append, List.dropWhile_cons]
    split at h
    · rename_i hb
      rw [if_pos hb]
      exact ih h
    · cases h
end Go.Proofs.YtakgcaehkphepaaGreatDoor
