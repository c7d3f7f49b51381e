/- Plain law: UTF-8: a valid sequence is read by its own bytes alone; encodings are valid; valid texts join. No program here. -/
import Derived.Test.YtakgcaehkphepaaGreatDoorJz
import Derived.Lib.ValidLaws
namespace Go.Proofs.YtakgcaehkphepaaGreatDoor
open Go.Lib
set_option linter.unusedVariables false
set_option linter.unusedSimpArgs false

/-- A byte of a rune of several bytes. -/
def hiB (c : UInt8) : Prop := 128 ≤ c.toNat
/-- The bytes u are one valid rune of several bytes, r. -/
structure Multi (u : Bs) (r : Nat) : Prop where
  two : 2 ≤ u.length
  dec : ∀ t, decodeL (u ++ t) = (r, u.length)
  hi : ∀ c ∈ u, hiB c
  big : 128 ≤ r

theorem dec_cons (b0 : UInt8) (l : Bs) : decodeL (b0 :: l) = decodeN (l.length + 1) b0.toNat (l.getD 0 0).toNat (l.getD 1 0).toNat (l.getD 2 0).toNat := by
  rw [decodeL_N]; simp

theorem decodeN_le (n b0 b1 b2 b3 : Nat) (h : ¬ ((decodeN n b0 b1 b2 b3).1 = 65533 ∧ (decodeN n b0 b1 b2 b3).2 = 1)) (h0 : 128 ≤ b0) :
    128 ≤ (decodeN n b0 b1 b2 b3).1 ∧ ((decodeN n b0 b1 b2 b3).2 = 2 ∧ 1 < n ∧ 128 ≤ b1 ∧ (∀ m c2 c3, 1 < m → decodeN m b0 b1 c2 c3 = decodeN n b0 b1 b2 b3) ∨
    (decodeN n b0 b1 b2 b3).2 = 3 ∧ 2 < n ∧ 128 ≤ b1 ∧ 128 ≤ b2 ∧ (∀ m c3, 2 < m → decodeN m b0 b1 b2 c3 = decodeN n b0 b1 b2 b3) ∨
    (decodeN n b0 b1 b2 b3).2 = 4 ∧ 3 < n ∧ 128 ≤ b1 ∧ 128 ≤ b2 ∧ 128 ≤ b3 ∧ (∀ m, 3 < m → decodeN m b0 b1 b2 b3 = decodeN n b0 b1 b2 b3)) := by
  have e0 : ¬ b0 < 128 := by omega
  by_cases c1 : b0 / 32 = 6 ∧ (1 < n ∧ b1 / 64 = 2)
  · have e : ∀ m c2 c3, 1 < m → decodeN m b0 b1 c2 c3 = if b0 % 32 * 64 + b1 % 64 ≥ 128 then (b0 % 32 * 64 + b1 % 64, 2) else (65533, 1) := by
      intro m c2 c3 hm
      unfold decodeN
      rw [if_neg e0, if_pos ⟨c1.1, hm, c1.2.2⟩]
    rw [e n b2 b3 c1.2.1] at h ⊢
    by_cases g : b0 % 32 * 64 + b1 % 64 ≥ 128
    · rw [if_pos g]
      exact ⟨g, .inl ⟨rfl, c1.2.1, by omega, fun m c2 c3 hm => by rw [e m c2 c3 hm, if_pos g]⟩⟩
    · rw [if_neg g] at h; exact absurd ⟨rfl, rfl⟩ h
  by_cases c2 : b0 / 16 = 14 ∧ (1 < n ∧ b1 / 64 = 2) ∧ (2 < n ∧ b2 / 64 = 2)
  · have e : ∀ m c3, 2 < m → decodeN m b0 b1 b2 c3 = if b0 % 16 * 4096 + b1 % 64 * 64 + b2 % 64 ≥ 2048 ∧ (b0 % 16 * 4096 + b1 % 64 * 64 + b2 % 64 < 55296 ∨ (57344 ≤ b0 % 16 * 4096 + b1 % 64 * 64 + b2 % 64 ∧ b0 % 16 * 4096 + b1 % 64 * 64 + b2 % 64 ≤ 1114111)) then (b0 % 16 * 4096 + b1 % 64 * 64 + b2 % 64, 3) else (65533, 1) := by
      intro m c3 hm
      unfold decodeN
      rw [if_neg e0, if_neg (by omega), if_pos ⟨c2.1, ⟨by omega, c2.2.1.2⟩, hm, c2.2.2.2⟩]
    rw [e n b3 c2.2.2.1] at h ⊢
    by_cases g : b0 % 16 * 4096 + b1 % 64 * 64 + b2 % 64 ≥ 2048 ∧ (b0 % 16 * 4096 + b1 % 64 * 64 + b2 % 64 < 55296 ∨ (57344 ≤ b0 % 16 * 4096 + b1 % 64 * 64 + b2 % 64 ∧ b0 % 16 * 4096 + b1 % 64 * 64 + b2 % 64 ≤ 1114111))
    · rw [if_pos g]
      exact ⟨by have := g.1; simp only; omega, .inr (.inl ⟨rfl, c2.2.2.1, by omega, by omega, fun m c3 hm => by rw [e m c3 hm, if_pos g]⟩)⟩
    · rw [if_neg g] at h; exact absurd ⟨rfl, rfl⟩ h
  by_cases c3 : b0 / 8 = 30 ∧ (1 < n ∧ b1 / 64 = 2) ∧ (2 < n ∧ b2 / 64 = 2) ∧ (3 < n ∧ b3 / 64 = 2)
  · have e : ∀ m, 3 < m → decodeN m b0 b1 b2 b3 = if b0 % 8 * 262144 + b1 % 64 * 4096 + b2 % 64 * 64 + b3 % 64 ≥ 65536 ∧ (b0 % 8 * 262144 + b1 % 64 * 4096 + b2 % 64 * 64 + b3 % 64 < 55296 ∨ (57344 ≤ b0 % 8 * 262144 + b1 % 64 * 4096 + b2 % 64 * 64 + b3 % 64 ∧ b0 % 8 * 262144 + b1 % 64 * 4096 + b2 % 64 * 64 + b3 % 64 ≤ 1114111)) then (b0 % 8 * 262144 + b1 % 64 * 4096 + b2 % 64 * 64 + b3 % 64, 4) else (65533, 1) := by
      intro m hm
      unfold decodeN
      rw [if_neg e0, if_neg (by omega), if_neg (by omega), if_pos ⟨c3.1, ⟨by omega, c3.2.1.2⟩, ⟨by omega, c3.2.2.1.2⟩, hm, c3.2.2.2.2⟩]
    rw [e n c3.2.2.2.1] at h ⊢
    by_cases g : b0 % 8 * 262144 + b1 % 64 * 4096 + b2 % 64 * 64 + b3 % 64 ≥ 65536 ∧ (b0 % 8 * 262144 + b1 % 64 * 4096 + b2 % 64 * 64 + b3 % 64 < 55296 ∨ (57344 ≤ b0 % 8 * 262144 + b1 % 64 * 4096 + b2 % 64 * 64 + b3 % 64 ∧ b0 % 8 * 262144 + b1 % 64 * 4096 + b2 % 64 * 64 + b3 % 64 ≤ 1114111))
    · rw [if_pos g]
      exact ⟨by have := g.1; simp only; omega, .inr (.inr ⟨rfl, c3.2.2.2.1, by omega, by omega, by omega, fun m hm => by rw [e m hm, if_pos g]⟩)⟩
    · rw [if_neg g] at h; exact absurd ⟨rfl, rfl⟩ h
  · exfalso
    apply h
    have : decodeN n b0 b1 b2 b3 = (65533, 1) := by
      unfold decodeN
      rw [if_neg e0, if_neg c1, if_neg c2, if_neg c3]
    rw [this]; exact ⟨rfl, rfl⟩

/-- What a valid text begins with: a byte below 128, or one valid rune of several bytes. -/
theorem valid_head (s : Bs) (hne : s ≠ []) (h : ¬ ((decodeL s).1 = 65533 ∧ (decodeL s).2 = 1)) :
    (∃ c r, s = c :: r ∧ c.toNat < 128) ∨ ∃ u r t, s = u ++ t ∧ Multi u r := by
  cases s with
  | nil => exact absurd rfl hne
  | cons c0 l =>
    by_cases hc : c0.toNat < 128
    · exact .inl ⟨c0, l, rfl, hc⟩
    · right
      rw [dec_cons] at h
      obtain ⟨hb, h2 | h3 | h4⟩ := decodeN_le _ _ _ _ _ h (by omega)
      · obtain ⟨hw, hn, h1, hd⟩ := h2
        obtain ⟨c1, l, rfl⟩ : ∃ c1 l', l = c1 :: l' := by cases l with
          | nil => simp at hn
          | cons a b => exact ⟨a, b, rfl⟩
        refine ⟨[c0, c1], _, l, rfl, ⟨by simp, fun t => ?_, ?_, hb⟩⟩
        · show decodeL (c0 :: (c1 :: t)) = _
          rw [dec_cons]
          exact (hd (t.length + 1 + 1) (t.getD 0 0).toNat (t.getD 1 0).toNat (by omega)).trans (Prod.ext rfl hw)
        · intro c hcm
          simp only [List.mem_cons, List.not_mem_nil, or_false] at hcm
          rcases hcm with rfl | rfl
          · exact Nat.not_lt.1 hc
          · exact h1
      · obtain ⟨hw, hn, h1, h2, hd⟩ := h3
        obtain ⟨c1, c2, l, rfl⟩ : ∃ c1 c2 l', l = c1 :: c2 :: l' := by
          rcases l with _ | ⟨a, _ | ⟨b, l⟩⟩
          · simp at hn
          · simp at hn
          · exact ⟨a, b, l, rfl⟩
        refine ⟨[c0, c1, c2], _, l, rfl, ⟨by simp, fun t => ?_, ?_, hb⟩⟩
        · show decodeL (c0 :: (c1 :: c2 :: t)) = _
          rw [dec_cons]
          exact (hd (t.length + 1 + 1 + 1) (t.getD 0 0).toNat (by omega)).trans (Prod.ext rfl hw)
        · intro c hcm
          simp only [List.mem_cons, List.not_mem_nil, or_false] at hcm
          rcases hcm with rfl | rfl | rfl
          · exact Nat.not_lt.1 hc
          · exact h1
          · exact h2
      · obtain ⟨hw, hn, h1, h2, h3, hd⟩ := h4
        obtain ⟨c1, c2, c3, l, rfl⟩ : ∃ c1 c2 c3 l', l = c1 :: c2 :: c3 :: l' := by
          rcases l with _ | ⟨a, _ | ⟨b, _ | ⟨c, l⟩⟩⟩
          · simp at hn
          · simp at hn
          · simp at hn
          · exact ⟨a, b, c, l, rfl⟩
        refine ⟨[c0, c1, c2, c3], _, l, rfl, ⟨by simp, fun t => ?_, ?_, hb⟩⟩
        · show decodeL (c0 :: (c1 :: c2 :: c3 :: t)) = _
          rw [dec_cons]
          exact (hd (t.length + 1 + 1 + 1 + 1) (by omega)).trans (Prod.ext rfl hw)
        · intro c hcm
          simp only [List.mem_cons, List.not_mem_nil, or_false] at hcm
          rcases hcm with rfl | rfl | rfl | rfl
          · exact Nat.not_lt.1 hc
          · exact h1
          · exact h2
          · exact h3

theorem Multi.valid {u : Bs} {r : Nat} (m : Multi u r) (t : Bs) : validD (u ++ t) = validD t := by
  have hne : u ++ t ≠ [] := by
    have := m.two
    intro h
    have := congrArg List.length h
    simp at this
    have h2 : u.length = 0 := by rw [this.1]; rfl
    omega
  rw [validD_step _ hne, m.dec t, if_neg (by have := m.two; simp only; omega)]
  simp
/-- A valid text, by its runes. -/
theorem valid_ind (P : Bs → Prop) (h0 : P []) (h1 : ∀ c r, c.toNat < 128 → validD r = true → P r → P (c :: r)) (h2 : ∀ u r t, Multi u r → validD t = true → P t → P (u ++ t)) :
    ∀ (n : Nat) (s : Bs), s.length ≤ n → validD s = true → P s
  | 0, s, hn, _ => by
    have : s = [] := List.eq_nil_of_length_eq_zero (by omega)
    rw [this]; exact h0
  | n + 1, s, hn, hv => by
    by_cases hne : s = []
    · rw [hne]; exact h0
    have hs := hv
    rw [validD_step s hne] at hs
    have hg : ¬ ((decodeL s).1 = 65533 ∧ (decodeL s).2 = 1) := fun h => by rw [if_pos h] at hs; cases hs
    rcases valid_head s hne hg with ⟨c, r, rfl, hc⟩ | ⟨u, r, t, rfl, m⟩
    · rw [validD_cons c r hc] at hv
      exact h1 c r hc hv (valid_ind P h0 h1 h2 n r (by simp at hn; omega) hv)
    · rw [m.valid] at hv
      exact h2 u r t m hv (valid_ind P h0 h1 h2 n t (by have := m.two; simp at hn; omega) hv)
theorem valid_append (a b : Bs) (ha : validD a = true) (hb : validD b = true) : validD (a ++ b) = true := by
  revert ha
  intro ha
  exact valid_ind (fun a => validD (a ++ b) = true) hb (fun c r hc _ h => by rw [List.cons_append, validD_cons c _ hc]; exact h) (fun u r t m _ h => by rw [List.append_assoc, m.valid]; exact h) a.length a (Nat.le_refl _) ha
theorem Multi.self {u : Bs} {r : Nat} (m : Multi u r) : validD u = true := by
  have := m.valid []
  rw [List.append_nil] at this
  rw [this]; rfl
end Go.Proofs.YtakgcaehkphepaaGreatDoor
