/- Plain law: texts as the program and the document read them, in one form; what is quoted is read as it was; what is read is UTF-8. No program here. -/
import Derived.Test.YtakgcaehkphepaaGreatDoorPa
namespace Go.Proofs.YtakgcaehkphepaaGreatDoor
open Go.Lib
set_option linter.unusedVariables false
set_option linter.unusedSimpArgs false

theorem decGo_eq (s : Bs) (h : s ≠ []) : Lib.decodeGo (bs s) = decodeL s := by
  unfold Lib.decodeGo
  rw [if_neg]
  · rfl
  · rw [bs_size]; intro h'; exact h (List.eq_nil_of_length_eq_zero h')


/-! ### The one form -/
def escUC (s : Bs) : Except Int (Bs × Bs) :=
  match hex4 s with
  | none => .error 150
  | some n =>
    if n < 55296 ∨ 57343 < n then .ok (encB n, s.drop 4)
    else if 56320 ≤ n then .error 152
    else if [92, 117].isPrefixOf (s.drop 4) then
      match hex4 (s.drop 6) with
      | some m => if 56320 ≤ m ∧ m ≤ 57343 then .ok (encB (65536 + ((n : Int) - 55296) * 1024 + m - 56320), s.drop 10) else .error 152
      | none => .error 152
    else .error 152
def escC (s : Bs) : Except Int (Bs × Bs) :=
  match esc1 (first s) with
  | some t => .ok (t, s.drop 1)
  | none => if [117].isPrefixOf s then escUC (s.drop 1) else .error 150
/-- A text behind another one. -/
def onto (a : Bs) : Except Int (Bs × Bs) → Except Int (Bs × Bs)
  | .error e => .error e
  | .ok (x, q) => .ok (a ++ x, q)
def wordC : Nat → Bs → Except Int (Bs × Bs)
  | 0, _ => .error 150
  | k + 1, s =>
    if (Lib.decodeGo (bs s)).1 < 32 ∨ (Lib.decodeGo (bs s)).1 = 65533 ∧ (Lib.decodeGo (bs s)).2 < 2 then .error 150
    else if [34].isPrefixOf s then .ok ([], s.drop 1)
    else if [92].isPrefixOf s then
      match escC (s.drop 1) with
      | .error e => .error e
      | .ok (t, r) => onto t (wordC k r)
    else onto (s.take (Lib.decodeGo (bs s)).2) (wordC k (s.drop (Lib.decodeGo (bs s)).2))

/-- The program's answer and the one form's. -/
def Rl {α : Type} (m : α × Bs × Option Int) (c : Except Int (α × Bs)) : Prop :=
  match c with
  | .ok (x, t) => m = (x, t, none)
  | .error e => m.2.2 = some e

theorem escU_Rl (s : Bs) : Rl (escU s none) (escUC s) := by
  unfold escU escUC
  cases hex4 s with
  | none => exact rfl
  | some n =>
    dsimp only
    by_cases h1 : n < 55296 ∨ 57343 < n
    · rw [if_pos h1, if_pos h1]; exact rfl
    rw [if_neg h1, if_neg h1]
    by_cases h2 : 56320 ≤ n
    · rw [if_pos h2, if_pos h2]; exact rfl
    rw [if_neg h2, if_neg h2]
    cases h3 : List.isPrefixOf [92, 117] (s.drop 4) with
    | false => exact rfl
    | true =>
      rw [if_pos rfl, if_pos rfl]
      cases hex4 (s.drop 6) with
      | none => exact rfl
      | some m =>
        dsimp only
        by_cases h4 : 56320 ≤ m ∧ m ≤ 57343
        · rw [if_pos h4, if_pos h4]; exact rfl
        · rw [if_neg h4, if_neg h4]; exact rfl
theorem escM_Rl (s : Bs) : Rl (escM s none) (escC s) := by
  unfold escM escC
  cases esc1 (first s) with
  | some t => exact rfl
  | none =>
    dsimp only
    cases h3 : List.isPrefixOf [117] s with
    | false => exact rfl
    | true => rw [if_pos rfl, if_pos rfl]; exact escU_Rl _
theorem runesM_some (k : Nat) (s : Bs) (e : Int) (acc : Bs) : (runesM k s (some e) acc).2.2 = some e := by
  cases k <;> rfl

/-! ### One step, by what stands next -/
theorem isPre1 (a c : UInt8) (r : Bs) : List.isPrefixOf [a] (c :: r) = (a == c) := by simp [List.isPrefixOf]
theorem wordC_nil (k : Nat) : wordC (k + 1) [] = .error 150 := by
  simp only [wordC]; rw [decGo_nil, if_pos (by decide)]
theorem wordC_bad (k : Nat) (s : Bs) (h : s ≠ []) (hb : (decodeL s).1 = 65533 ∧ (decodeL s).2 = 1) : wordC (k + 1) s = .error 150 := by
  simp only [wordC]; rw [decGo_eq s h, if_pos (by omega)]
theorem wordC_ctl (k : Nat) (c : UInt8) (r : Bs) (h : c.toNat < 32) : wordC (k + 1) (c :: r) = .error 150 := by
  simp only [wordC]; rw [decGo_eq _ (by simp), decodeL_ascii c r (by omega), if_pos (.inl h)]
theorem wordC_end (k : Nat) (r : Bs) : wordC (k + 1) (34 :: r) = .ok ([], r) := by
  simp only [wordC]; rw [decGo_eq _ (by simp), decodeL_ascii 34 r (by decide), if_neg (by simp only; decide), isPre1, if_pos (by decide)]; rfl
theorem wordC_esc (k : Nat) (r : Bs) : wordC (k + 1) (92 :: r) = match escC r with | .error e => .error e | .ok (t, r) => onto t (wordC k r) := by
  simp only [wordC]; rw [decGo_eq _ (by simp), decodeL_ascii 92 r (by decide), if_neg (by simp only; decide), isPre1, isPre1, if_neg (by decide), if_pos (by decide)]; rfl
theorem wordC_plain (k : Nat) (c : UInt8) (r : Bs) (h : c.toNat < 128) (h0 : 32 ≤ c.toNat) (h1 : c ≠ 34) (h2 : c ≠ 92) : wordC (k + 1) (c :: r) = onto [c] (wordC k r) := by
  simp only [wordC]
  rw [decGo_eq _ (by simp), decodeL_ascii c r h, if_neg (by simp only; omega), isPre1, isPre1, if_neg (by simpa using fun e => h1 e.symm), if_neg (by simpa using fun e => h2 e.symm)]
  rfl
theorem Multi.ne {u : Bs} {r : Nat} (m : Multi u r) (t : Bs) : u ++ t ≠ [] := by
  intro h
  have := congrArg List.length h
  have := m.two
  simp at *
  simp_all
theorem Multi.head {u : Bs} {r : Nat} (m : Multi u r) : ∃ c v, u = c :: v ∧ 128 ≤ c.toNat := by
  cases u with
  | nil => exact absurd m.two (by simp)
  | cons c v => exact ⟨c, v, rfl, m.hi c (by simp)⟩
theorem wordC_multi (k : Nat) (u : Bs) (r : Nat) (t : Bs) (m : Multi u r) : wordC (k + 1) (u ++ t) = onto u (wordC k t) := by
  simp only [wordC]
  obtain ⟨c, v, rfl, hc⟩ := m.head
  have h2 := m.two
  have hb := m.big
  rw [decGo_eq _ (m.ne t), m.dec t, if_neg (by simp only; omega)]
  have e1 : List.isPrefixOf [34] (c :: v ++ t) = false := by rw [List.cons_append, isPre1]; simp; intro e; rw [← e] at hc; exact absurd hc (by decide)
  have e2 : List.isPrefixOf [92] (c :: v ++ t) = false := by rw [List.cons_append, isPre1]; simp; intro e; rw [← e] at hc; exact absurd hc (by decide)
  rw [e1, e2, if_neg (by decide), if_neg (by decide)]
  simp

/-- What a text begins with. -/
theorem word_view (s : Bs) : s = [] ∨ (s ≠ [] ∧ (decodeL s).1 = 65533 ∧ (decodeL s).2 = 1) ∨ (∃ c r, s = c :: r ∧ c.toNat < 32) ∨ (∃ r, s = 34 :: r) ∨ (∃ r, s = 92 :: r) ∨
    (∃ c r, s = c :: r ∧ c.toNat < 128 ∧ 32 ≤ c.toNat ∧ c ≠ 34 ∧ c ≠ 92) ∨ ∃ u r t, s = u ++ t ∧ Multi u r := by
  by_cases h : s = []
  · exact .inl h
  by_cases hb : (decodeL s).1 = 65533 ∧ (decodeL s).2 = 1
  · exact .inr (.inl ⟨h, hb⟩)
  rcases valid_head s h hb with ⟨c, r, rfl, hc⟩ | ⟨u, r, t, rfl, m⟩
  · by_cases h0 : c.toNat < 32
    · exact .inr (.inr (.inl ⟨c, r, rfl, h0⟩))
    by_cases h1 : c = 34
    · exact .inr (.inr (.inr (.inl ⟨r, by rw [h1]⟩)))
    by_cases h2 : c = 92
    · exact .inr (.inr (.inr (.inr (.inl ⟨r, by rw [h2]⟩))))
    · exact .inr (.inr (.inr (.inr (.inr (.inl ⟨c, r, rfl, hc, by omega, h1, h2⟩)))))
  · exact .inr (.inr (.inr (.inr (.inr (.inr ⟨u, r, t, rfl, m⟩)))))

/-! ### The program's is the one form -/
theorem isPre_len {p s : Bs} (h : p.isPrefixOf s = true) : p.length ≤ s.length := List.IsPrefix.length_le (List.isPrefixOf_iff_prefix.1 h)
theorem escC_len (s t r : Bs) (h : escC s = .ok (t, r)) : r.length < s.length := by
  unfold escC at h
  split at h
  · rename_i x hx
    cases s with
    | nil => rw [show esc1 (first []) = none from rfl] at hx; cases hx
    | cons c l => cases h; simp
  · split at h
    · rename_i hp
      have h0 := isPre_len hp
      unfold escUC at h
      split at h
      · cases h
      · split at h
        · simp only [Except.ok.injEq, Prod.mk.injEq] at h; obtain ⟨_, rfl⟩ := h; simp at *; omega
        · split at h
          · cases h
          · split at h
            · split at h
              · split at h
                · simp only [Except.ok.injEq, Prod.mk.injEq] at h; obtain ⟨_, rfl⟩ := h; simp at *; omega
                · cases h
              · cases h
            · cases h
    · cases h
theorem onto_onto (a b : Bs) (c : Except Int (Bs × Bs)) : onto a (onto b c) = onto (a ++ b) c := by
  cases c with
  | error e => rfl
  | ok x => simp [onto]
theorem runes_C : ∀ (k : Nat) (s acc : Bs), s.length < k → Rl (runesM k s none acc) (onto acc (wordC k s))
  | 0, s, acc, h => absurd h (by omega)
  | k + 1, s, acc, h => by
    simp only [runesM, wordC]
    by_cases h1 : (Lib.decodeGo (bs s)).1 < 32 ∨ (Lib.decodeGo (bs s)).1 = 65533 ∧ (Lib.decodeGo (bs s)).2 < 2
    · rw [if_pos h1, if_pos h1]; exact rfl
    rw [if_neg h1, if_neg h1]
    have hne : s ≠ [] := by rintro rfl; exact h1 (by rw [decGo_nil]; decide)
    have hw : 1 ≤ (Lib.decodeGo (bs s)).2 := by rw [decGo_eq s hne]; exact decodeL_width s
    have hl : 0 < s.length := List.length_pos_iff.2 hne
    cases h2 : List.isPrefixOf [34] s with
    | true => rw [if_pos rfl, if_pos rfl]; simp [onto, Rl]
    | false =>
      cases h3 : List.isPrefixOf [92] s with
      | true =>
        simp only [Bool.false_eq_true, if_false, if_true]
        have hr := escM_Rl (s.drop 1)
        cases he : escC (s.drop 1) with
        | error e =>
          rw [he] at hr
          have hr' : (escM (s.drop 1) none).2.2 = some e := hr
          rw [hr']
          exact runesM_some _ _ _ _
        | ok x =>
          obtain ⟨t, r⟩ := x
          rw [he] at hr
          have hr' : escM (s.drop 1) none = (t, r, none) := hr
          have hlen := escC_len _ _ _ he
          rw [List.length_drop] at hlen
          rw [hr']
          dsimp only
          rw [onto_onto]
          exact runes_C k r (acc ++ t) (by omega)
      | false =>
        simp only [Bool.false_eq_true, if_false]
        rw [onto_onto]
        exact runes_C k _ _ (by rw [List.length_drop]; omega)
theorem word_C (s : Bs) : Rl (wordM s none) (wordC (s.length + 1) s) := by
  have h := runes_C (s.length + 1) s [] (by omega)
  have e : ∀ c, onto [] c = c := fun c => by cases c <;> rfl
  rw [e] at h
  exact h
end Go.Proofs.YtakgcaehkphepaaGreatDoor
