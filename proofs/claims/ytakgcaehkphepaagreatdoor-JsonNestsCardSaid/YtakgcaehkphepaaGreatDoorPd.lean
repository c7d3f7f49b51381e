/- Plain law: values: how the program reads them is one form; its answers. No program here. -/
import Derived.Test.YtakgcaehkphepaaGreatDoorPc
namespace Go.Proofs.YtakgcaehkphepaaGreatDoor
open Go.Lib
set_option linter.unusedVariables false
set_option linter.unusedSimpArgs false

/-! ### The program's model -/
def nullJ : J := .mk 0 false 0 [] [] []
/-- A literal or a number. -/
def leafM (s : Bs) : J × Bs × Option Int :=
  if first s = 34 then (.mk 3 false 0 (wordM (s.drop 1) none).1 [] [], (wordM (s.drop 1) none).2.1, (wordM (s.drop 1) none).2.2)
  else if sNull.isPrefixOf s then (nullJ, s.drop 4, none)
  else if sTrue.isPrefixOf s then (.mk 1 true 0 [] [] [], s.drop 4, none)
  else if sFalse.isPrefixOf s then (.mk 1 false 0 [] [] [], s.drop 5, none)
  else (.mk 2 false (numI (digText s)) [] [] [], s.drop (digText s).length, if digBad s then some 150 else none)
/-- A list's, an object's items, whose first sign was taken. -/
def itemsM (val : Bs → J × Bs × Option Int) (kind : Int) (cl : UInt8) (s : Bs) : J × Bs × Option Int :=
  if [cl].isPrefixOf (skipB s) then (emptyJ kind [] [], (skipB s).drop 1, none) else itemsLoop val kind cl ((skipB s).length + 1) (skipB s) none [] []
/-- One value, that may nest so much. -/
def valM : Nat → Bs → J × Bs × Option Int
  | 0, s => if first s = 91 then (emptyJ 4 [] [], s, some 151) else if first s = 123 then (emptyJ 5 [] [], s, some 151) else leafM s
  | k + 1, s => if first s = 91 then itemsM (valM k) 4 93 (s.drop 1) else if first s = 123 then itemsM (valM k) 5 125 (s.drop 1) else leafM s
def parseM (s : Bs) : J × Int :=
  match (if skipB (valM 64 (skipB s)).2.1 = [] then (valM 64 (skipB s)).2.2 else failE (valM 64 (skipB s)).2.2 150) with
  | none => ((valM 64 (skipB s)).1, 0)
  | some y => (nullJ, y)

/-! ### The one form -/
def leafC (s : Bs) : Except Int (J × Bs) :=
  if first s = 34 then (match wordC ((s.drop 1).length + 1) (s.drop 1) with | .error e => .error e | .ok (x, q) => .ok (.mk 3 false 0 x [] [], q))
  else if sNull.isPrefixOf s then .ok (nullJ, s.drop 4)
  else if sTrue.isPrefixOf s then .ok (.mk 1 true 0 [] [] [], s.drop 4)
  else if sFalse.isPrefixOf s then .ok (.mk 1 false 0 [] [] [], s.drop 5)
  else if digBad s then .error 150 else .ok (.mk 2 false (numI (digText s)) [] [] [], s.drop (digText s).length)
/-- A key and its colon, in an object; blanks. -/
def keyC (kind : Int) (s : Bs) (ks : List Bs) : Except Int (List Bs × Bs) :=
  if kind = 5 then
    if [34].isPrefixOf (skipB s) then
      match wordC (((skipB s).drop 1).length + 1) ((skipB s).drop 1) with
      | .error e => .error e
      | .ok (k, q) => if k ∈ ks then .error 150 else if [58].isPrefixOf (skipB q) then .ok (ks ++ [k], skipB ((skipB q).drop 1)) else .error 150
    else .error 150
  else .ok (ks, skipB s)
def loopC (val : Bs → Except Int (J × Bs)) (kind : Int) (cl : UInt8) : Nat → Bs → List Bs → List J → Except Int (J × Bs)
  | 0, _, _, _ => .error 150
  | g + 1, s, ks, l =>
    match keyC kind s ks with
    | .error e => .error e
    | .ok (ks', s1) =>
      match val s1 with
      | .error e => .error e
      | .ok (x, s2) =>
        if [cl].isPrefixOf (skipB s2) then .ok (emptyJ kind ks' (l ++ [x]), (skipB s2).drop 1)
        else if [44].isPrefixOf (skipB s2) then loopC val kind cl g ((skipB s2).drop 1) ks' (l ++ [x])
        else .error 150
def itemsC (val : Bs → Except Int (J × Bs)) (kind : Int) (cl : UInt8) (s : Bs) : Except Int (J × Bs) :=
  if [cl].isPrefixOf (skipB s) then .ok (emptyJ kind [] [], (skipB s).drop 1) else loopC val kind cl ((skipB s).length + 1) (skipB s) [] []
def valC : Nat → Bs → Except Int (J × Bs)
  | 0, s => if first s = 91 then .error 151 else if first s = 123 then .error 151 else leafC s
  | k + 1, s => if first s = 91 then itemsC (valC k) 4 93 (s.drop 1) else if first s = 123 then itemsC (valC k) 5 125 (s.drop 1) else leafC s
def parseC (s : Bs) : J × Int :=
  match valC 64 (skipB s) with
  | .error e => (nullJ, e)
  | .ok (j, q) => if skipB q = [] then (j, 0) else (nullJ, 150)

theorem leaf_Rl (s : Bs) : Rl (leafM s) (leafC s) := by
  unfold leafM leafC
  by_cases h1 : first s = 34
  · rw [if_pos h1, if_pos h1]
    have h := word_C (s.drop 1)
    cases hw : wordC ((s.drop 1).length + 1) (s.drop 1) with
    | error e => rw [hw] at h; exact h
    | ok x =>
      obtain ⟨x, q⟩ := x
      rw [hw] at h
      have h' : wordM (s.drop 1) none = (x, q, none) := h
      rw [h']; exact rfl
  rw [if_neg h1, if_neg h1]
  cases List.isPrefixOf sNull s with
  | true => exact rfl
  | false =>
    cases List.isPrefixOf sTrue s with
    | true => exact rfl
    | false =>
      cases List.isPrefixOf sFalse s with
      | true => exact rfl
      | false =>
        cases digBad s with
        | true => exact rfl
        | false => exact rfl
theorem word_Rl_error {s : Bs} {e : Int} (h : wordC (s.length + 1) s = .error e) : (wordM s none).2.2 = some e := by
  have := word_C s
  rw [h] at this
  exact this
theorem word_Rl_ok {s x q : Bs} (h : wordC (s.length + 1) s = .ok (x, q)) : wordM s none = (x, q, none) := by
  have := word_C s
  rw [h] at this
  exact this
theorem key_Rl (kind : Int) (s : Bs) (ks : List Bs) : Rl (roundK kind s ks) (keyC kind s ks) := by
  unfold roundK keyC
  by_cases h1 : kind = 5
  · rw [if_pos h1, if_pos h1]
    unfold keyM
    cases h2 : List.isPrefixOf [34] (skipB s) with
    | false => exact rfl
    | true =>
      simp only [if_true]
      cases hw : wordC (((skipB s).drop 1).length + 1) ((skipB s).drop 1) with
      | error e =>
        have hw' := word_Rl_error hw
        have key : ∀ (p : Bool) (A B : List Bs × Bs) (c : Prop) [Decidable c], Rl (if p then (A.1, A.2, if c then failE (some e) 150 else some e) else (B.1, B.2, failE (if c then failE (some e) 150 else some e) 150)) (Except.error e : Except Int (List Bs × Bs)) := by
          intro p A B c _
          cases p <;> by_cases hc : c <;> simp [Rl, failE, hc]
        have := key (List.isPrefixOf [58] (skipB (wordM ((skipB s).drop 1) none).2.1)) (ks ++ [(wordM ((skipB s).drop 1) none).1], skipB ((skipB (wordM ((skipB s).drop 1) none).2.1).drop 1)) (ks ++ [(wordM ((skipB s).drop 1) none).1], skipB (skipB (wordM ((skipB s).drop 1) none).2.1)) ((wordM ((skipB s).drop 1) none).1 ∈ ks)
        rw [hw']
        exact this
      | ok x =>
        obtain ⟨k, q⟩ := x
        have hw' := word_Rl_ok hw
        rw [hw']
        dsimp only
        by_cases hm : k ∈ ks
        · simp only [if_pos hm]
          cases List.isPrefixOf [58] (skipB q) <;> exact rfl
        · simp only [if_neg hm]
          cases List.isPrefixOf [58] (skipB q) <;> exact rfl
  · rw [if_neg h1, if_neg h1]; exact rfl

theorem skipB_le (s : Bs) : (skipB s).length ≤ s.length := (List.dropWhile_suffix _).length_le
theorem wordC_len : ∀ (k : Nat) (s x q : Bs), wordC k s = .ok (x, q) → q.length < s.length
  | 0, s, x, q, h => by cases h
  | k + 1, s, x, q, h => by
    have on : ∀ (a s' : Bs), onto a (wordC k s') = .ok (x, q) → q.length < s'.length := by
      intro a s' h
      cases hw : wordC k s' with
      | error e => rw [hw] at h; cases h
      | ok y =>
        obtain ⟨y1, y2⟩ := y
        rw [hw] at h
        simp only [onto, Except.ok.injEq, Prod.mk.injEq] at h
        obtain ⟨_, rfl⟩ := h
        exact wordC_len k _ _ _ hw
    rcases word_view s with rfl | ⟨h0, hb⟩ | ⟨c, r, rfl, hc⟩ | ⟨r, rfl⟩ | ⟨r, rfl⟩ | ⟨c, r, rfl, hc, h0, h1, h2⟩ | ⟨u, r, t, rfl, m⟩
    · rw [wordC_nil] at h; cases h
    · rw [wordC_bad k s h0 hb] at h; cases h
    · rw [wordC_ctl k c r hc] at h; cases h
    · rw [wordC_end] at h
      simp only [Except.ok.injEq, Prod.mk.injEq] at h
      obtain ⟨_, rfl⟩ := h
      simp
    · rw [wordC_esc] at h
      cases he : escC r with
      | error e => rw [he] at h; cases h
      | ok y =>
        obtain ⟨t, r'⟩ := y
        rw [he] at h
        have := on t r' h
        have := escC_len _ _ _ he
        simp; omega
    · rw [wordC_plain k c r hc h0 h1 h2] at h
      have := on _ _ h
      simp; omega
    · rw [wordC_multi k u r t m] at h
      have := on _ _ h
      rw [List.length_append]; omega
theorem keyC_len (kind : Int) (s : Bs) (ks ks' : List Bs) (q : Bs) (h : keyC kind s ks = .ok (ks', q)) : q.length ≤ s.length := by
  have h0 := skipB_le s
  unfold keyC at h
  split at h
  · split at h
    · split at h
      · cases h
      · rename_i k q' hw
        have h1 := wordC_len _ _ _ _ hw
        rw [List.length_drop] at h1
        have h2 := skipB_le q'
        have h3 := skipB_le ((skipB q').drop 1)
        rw [List.length_drop] at h3
        split at h
        · cases h
        · split at h
          · simp only [Except.ok.injEq, Prod.mk.injEq] at h; obtain ⟨_, rfl⟩ := h; omega
          · cases h
    · cases h
  · simp only [Except.ok.injEq, Prod.mk.injEq] at h; obtain ⟨_, rfl⟩ := h; exact h0
theorem loop_Rl (v : Bs → J × Bs × Option Int) (c : Bs → Except Int (J × Bs)) (hv : ∀ s, Rl (v s) (c s)) (hl : ∀ s x q, c s = .ok (x, q) → q.length ≤ s.length) (kind : Int) (cl : UInt8) :
    ∀ (g : Nat) (s : Bs) (ks : List Bs) (l : List J), s.length < g → Rl (itemsLoop v kind cl g s none ks l) (loopC c kind cl g s ks l)
  | 0, s, ks, l, h => absurd h (by omega)
  | g + 1, s, ks, l, h => by
    simp only [itemsLoop, loopC]
    have hk := key_Rl kind s ks
    cases hkc : keyC kind s ks with
    | error e =>
      rw [hkc] at hk
      have hk' : (roundK kind s ks).2.2 = some e := hk
      rw [hk']
      exact rfl
    | ok y =>
      obtain ⟨ks', s1⟩ := y
      have hs1 := keyC_len _ _ _ _ _ hkc
      rw [hkc] at hk
      have hk' : roundK kind s ks = (ks', s1, none) := hk
      rw [hk']
      dsimp only [roundV]
      have hv1 := hv s1
      cases hc : c s1 with
      | error e =>
        rw [hc] at hv1
        have hv' : (v s1).2.2 = some e := hv1
        rw [hv']
        exact rfl
      | ok y =>
        obtain ⟨x, s2⟩ := y
        have hs2 := hl _ _ _ hc
        rw [hc] at hv1
        have hv' : v s1 = (x, s2, none) := hv1
        rw [hv']
        dsimp only
        cases List.isPrefixOf [cl] (skipB s2) with
        | true => exact rfl
        | false =>
          simp only [Bool.false_eq_true, if_false]
          cases hq : List.isPrefixOf [44] (skipB s2) with
          | false => exact rfl
          | true =>
            simp only [if_true]
            refine loop_Rl v c hv hl kind cl g _ _ _ ?_
            have h1 := isPre_len hq
            have h2 := skipB_le s2
            rw [List.length_drop]
            simp at h1
            omega
theorem first_drop {s : Bs} {c : Int} (h : first s = c) (hc : c ≠ 0) : 0 < s.length := by
  cases s with
  | nil => exact absurd h (by rw [show first [] = 0 from rfl]; exact fun e => hc e.symm)
  | cons a b => simp
theorem loopC_len (c : Bs → Except Int (J × Bs)) (hl : ∀ s x q, c s = .ok (x, q) → q.length ≤ s.length) (kind : Int) (cl : UInt8) :
    ∀ (g : Nat) (s : Bs) (ks : List Bs) (l : List J) (x : J) (q : Bs), loopC c kind cl g s ks l = .ok (x, q) → q.length ≤ s.length
  | 0, s, ks, l, x, q, h => by cases h
  | g + 1, s, ks, l, x, q, h => by
    simp only [loopC] at h
    split at h
    · cases h
    · rename_i ks' s1 hkc
      have hs1 := keyC_len _ _ _ _ _ hkc
      split at h
      · cases h
      · rename_i y s2 hc
        have hs2 := hl _ _ _ hc
        have h2 := skipB_le s2
        split at h
        · simp only [Except.ok.injEq, Prod.mk.injEq] at h; obtain ⟨_, rfl⟩ := h; rw [List.length_drop]; omega
        · split at h
          · have := loopC_len c hl kind cl g _ _ _ _ _ h
            rw [List.length_drop] at this
            omega
          · cases h
theorem leafC_len (s : Bs) (x : J) (q : Bs) (h : leafC s = .ok (x, q)) : q.length ≤ s.length := by
  unfold leafC at h
  split at h
  · split at h
    · cases h
    · rename_i hw
      have := wordC_len _ _ _ _ hw
      simp only [Except.ok.injEq, Prod.mk.injEq] at h; obtain ⟨_, rfl⟩ := h
      rw [List.length_drop] at this
      omega
  · repeat' split at h
    all_goals first | (cases h; done) | (simp only [Except.ok.injEq, Prod.mk.injEq] at h; obtain ⟨_, rfl⟩ := h; rw [List.length_drop]; omega)
theorem itemsC_len (c : Bs → Except Int (J × Bs)) (hl : ∀ s x q, c s = .ok (x, q) → q.length ≤ s.length) (kind : Int) (cl : UInt8) (s : Bs) (x : J) (q : Bs) (h : itemsC c kind cl s = .ok (x, q)) : q.length ≤ s.length := by
  have h0 := skipB_le s
  unfold itemsC at h
  split at h
  · simp only [Except.ok.injEq, Prod.mk.injEq] at h; obtain ⟨_, rfl⟩ := h; rw [List.length_drop]; omega
  · have := loopC_len c hl kind cl _ _ _ _ _ _ h
    omega
theorem valC_len : ∀ (k : Nat) (s : Bs) (x : J) (q : Bs), valC k s = .ok (x, q) → q.length ≤ s.length
  | 0, s, x, q, h => by
    simp only [valC] at h
    split at h
    · cases h
    · split at h
      · cases h
      · exact leafC_len _ _ _ h
  | k + 1, s, x, q, h => by
    simp only [valC] at h
    split at h
    · have := itemsC_len (valC k) (valC_len k) _ _ _ _ _ h
      rw [List.length_drop] at this; omega
    · split at h
      · have := itemsC_len (valC k) (valC_len k) _ _ _ _ _ h
        rw [List.length_drop] at this; omega
      · exact leafC_len _ _ _ h
theorem items_Rl (v : Bs → J × Bs × Option Int) (c : Bs → Except Int (J × Bs)) (hv : ∀ s, Rl (v s) (c s)) (hl : ∀ s x q, c s = .ok (x, q) → q.length ≤ s.length) (kind : Int) (cl : UInt8) (s : Bs) : Rl (itemsM v kind cl s) (itemsC c kind cl s) := by
  unfold itemsM itemsC
  cases List.isPrefixOf [cl] (skipB s) with
  | true => exact rfl
  | false => exact loop_Rl v c hv hl kind cl _ _ _ _ (by omega)
theorem val_Rl : ∀ (k : Nat) (s : Bs), Rl (valM k s) (valC k s)
  | 0, s => by
    simp only [valM, valC]
    split
    · exact rfl
    · split
      · exact rfl
      · exact leaf_Rl s
  | k + 1, s => by
    simp only [valM, valC]
    split
    · exact items_Rl _ _ (val_Rl k) (valC_len k) _ _ _
    · split
      · exact items_Rl _ _ (val_Rl k) (valC_len k) _ _ _
      · exact leaf_Rl s
/-- The program's answer is the one form's. -/
theorem parse_eq (s : Bs) : parseM s = parseC s := by
  unfold parseM parseC
  have h := val_Rl 64 (skipB s)
  cases hc : valC 64 (skipB s) with
  | error e =>
    rw [hc] at h
    have h' : (valM 64 (skipB s)).2.2 = some e := h
    rw [h']
    split <;> (rename_i hx; split at hx <;> simp_all [failE])
  | ok y =>
    obtain ⟨j, q⟩ := y
    rw [hc] at h
    have h' : valM 64 (skipB s) = (j, q, none) := h
    rw [h']
    dsimp only
    by_cases hq : skipB q = []
    · rw [if_pos hq, if_pos hq]
    · rw [if_neg hq, if_neg hq]; rfl
end Go.Proofs.YtakgcaehkphepaaGreatDoor
