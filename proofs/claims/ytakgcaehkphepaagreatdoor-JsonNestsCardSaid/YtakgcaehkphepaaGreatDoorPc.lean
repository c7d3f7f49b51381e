/- Plain law: what is quoted is read as it was; what is read is UTF-8. No program here. -/
import Derived.Test.YtakgcaehkphepaaGreatDoorPb
namespace Go.Proofs.YtakgcaehkphepaaGreatDoor
open Go.Lib
set_option linter.unusedVariables false
set_option linter.unusedSimpArgs false

/-! ### Quoting -/
def hexC (n : Nat) : UInt8 := [48, 49, 50, 51, 52, 53, 54, 55, 56, 57, 97, 98, 99, 100, 101, 102].getD n 0
def qb (c : UInt8) : Bs := if c.toNat < 32 then [92, 117, 48, 48, hexC (c.toNat / 16), hexC (c.toNat % 16)] else if c = 34 ∨ c = 92 then [92, c] else [c]
def qs (s : Bs) : Bs := s.flatMap qb
def quoteB (s : Bs) : Bs := 34 :: (qs s ++ [34])
theorem qs_cons (c : UInt8) (r : Bs) : qs (c :: r) = qb c ++ qs r := rfl
theorem qs_append (a b : Bs) : qs (a ++ b) = qs a ++ qs b := by simp [qs]
theorem qs_hi : ∀ u : Bs, (∀ c ∈ u, hiB c) → qs u = u
  | [], _ => rfl
  | c :: r, h => by
    have hc := h c (by simp)
    unfold hiB at hc
    rw [qs_cons, qs_hi r (fun d hd => h d (by simp [hd]))]
    unfold qb
    rw [if_neg (by omega), if_neg (by rintro (e | e) <;> rw [e] at hc <;> exact absurd hc (by decide))]
    rfl
theorem ctl_all : ∀ n : Fin 32, hex4 (48 :: 48 :: hexC (n.val / 16) :: hexC (n.val % 16) :: []) = some n.val ∧ encB (n.val : Int) = [UInt8.ofNat n.val] := by decide +kernel
theorem hex4_app (a b c d : UInt8) (t : Bs) : hex4 (a :: b :: c :: d :: t) = hex4 [a, b, c, d] := by simp [hex4]
theorem ctl_hex (c : UInt8) (h : c.toNat < 32) (t : Bs) : escC (117 :: 48 :: 48 :: hexC (c.toNat / 16) :: hexC (c.toNat % 16) :: t) = .ok ([c], t) := by
  obtain ⟨h1, h2⟩ := ctl_all ⟨c.toNat, h⟩
  unfold escC
  have e0 : esc1 (first (117 :: 48 :: 48 :: hexC (c.toNat / 16) :: hexC (c.toNat % 16) :: t)) = none := by show esc1 117 = none; decide
  rw [e0]
  dsimp only
  rw [isPre1, if_pos (by decide)]
  unfold escUC
  rw [List.drop_one, List.tail_cons, hex4_app, h1]
  dsimp only
  rw [if_pos (.inl (by omega)), h2]
  simp
theorem esc_self (c : UInt8) (h : c = 34 ∨ c = 92) (t : Bs) : escC (c :: t) = .ok ([c], t) := by
  rcases h with rfl | rfl <;> rfl
/-- What is quoted is read as it was. -/
theorem word_quote (s : Bs) (hv : validD s = true) (t : Bs) : ∀ k, (qs s).length < k → wordC k (qs s ++ 34 :: t) = .ok (s, t) := by
  refine valid_ind (fun s => ∀ k, (qs s).length < k → wordC k (qs s ++ 34 :: t) = .ok (s, t)) ?_ ?_ ?_ s.length s (Nat.le_refl _) hv
  · intro k hk
    obtain ⟨k, rfl⟩ : ∃ m, k = m + 1 := ⟨k - 1, by omega⟩
    exact wordC_end k t
  · intro c r hc _ ih k hk
    obtain ⟨k, rfl⟩ : ∃ m, k = m + 1 := ⟨k - 1, by omega⟩
    rw [qs_cons, List.length_append] at hk
    rw [qs_cons, List.append_assoc]
    unfold qb at hk ⊢
    by_cases h1 : c.toNat < 32
    · rw [if_pos h1] at hk ⊢
      simp only [List.cons_append, List.nil_append]
      rw [wordC_esc, ctl_hex c h1]
      dsimp only
      rw [ih k (by simp at hk; omega)]
      rfl
    · rw [if_neg h1] at hk ⊢
      by_cases h2 : c = 34 ∨ c = 92
      · rw [if_pos h2] at hk ⊢
        simp only [List.cons_append, List.nil_append]
        rw [wordC_esc, esc_self c h2]
        dsimp only
        rw [ih k (by simp at hk; omega)]
        rfl
      · rw [if_neg h2] at hk ⊢
        simp only [List.cons_append, List.nil_append]
        rw [wordC_plain k c _ hc (by omega) (fun e => h2 (.inl e)) (fun e => h2 (.inr e)), ih k (by simp at hk; omega)]
        rfl
  · intro u r t' m _ ih k hk
    obtain ⟨k, rfl⟩ : ∃ m, k = m + 1 := ⟨k - 1, by omega⟩
    rw [qs_append, qs_hi u m.hi, List.length_append] at hk
    rw [qs_append, qs_hi u m.hi, List.append_assoc, wordC_multi k u r _ m, ih k (by have := m.two; omega)]
    rfl

/-! ### What is read is UTF-8 -/
def encN (c : Nat) : ByteArray :=
  if c < 0x80 then ⟨#[UInt8.ofNat c]⟩
  else if c < 0x800 then ⟨#[UInt8.ofNat (0xC0 + c / 64), UInt8.ofNat (0x80 + c % 64)]⟩
  else if c < 0x10000 then ⟨#[UInt8.ofNat (0xE0 + c / 4096), UInt8.ofNat (0x80 + c / 64 % 64), UInt8.ofNat (0x80 + c % 64)]⟩
  else ⟨#[UInt8.ofNat (0xF0 + c / 262144), UInt8.ofNat (0x80 + c / 4096 % 64), UInt8.ofNat (0x80 + c / 64 % 64), UInt8.ofNat (0x80 + c % 64)]⟩
theorem enc_encN (r : Int) : Utf8.encode r = encN (if Utf8.valid r then r.toNat else Utf8.runeError) := rfl
theorem rune_ok (n : Nat) (h : n < 55296 ∨ 57343 < n ∧ n ≤ 1114111) : Utf8.valid (n : Int) = true := by simp only [Utf8.valid, Bool.or_eq_true, Bool.and_eq_true, decide_eq_true_eq]; omega
theorem enc_N (n : Nat) (r : Int) (hr : r = n) (h1 : Utf8.valid r = true) : Utf8.encode r = encN n := by
  rw [enc_encN, if_pos h1, hr, Int.toNat_natCast]
theorem encN_list (n : Nat) : (encN n).data.toList = if n < 128 then [UInt8.ofNat n] else if n < 2048 then [UInt8.ofNat (192 + n / 64), UInt8.ofNat (128 + n % 64)]
    else if n < 65536 then [UInt8.ofNat (224 + n / 4096), UInt8.ofNat (128 + n / 64 % 64), UInt8.ofNat (128 + n % 64)]
    else [UInt8.ofNat (240 + n / 262144), UInt8.ofNat (128 + n / 4096 % 64), UInt8.ofNat (128 + n / 64 % 64), UInt8.ofNat (128 + n % 64)] := by
  unfold encN
  by_cases h1 : n < 128
  · rw [if_pos h1, if_pos h1]
  rw [if_neg h1, if_neg h1]
  by_cases h2 : n < 2048
  · rw [if_pos h2, if_pos h2]
  rw [if_neg h2, if_neg h2]
  by_cases h3 : n < 65536
  · rw [if_pos h3, if_pos h3]
  rw [if_neg h3, if_neg h3]
theorem encB_N (r : Int) : encB r = (Utf8.encode r).data.toList := rfl
theorem enc_bytes (n : Nat) (r : Int) (hr : r = n) (h : n < 55296 ∨ 57343 < n ∧ n ≤ 1114111) : encB r =
    if n < 128 then [UInt8.ofNat n] else if n < 2048 then [UInt8.ofNat (192 + n / 64), UInt8.ofNat (128 + n % 64)]
    else if n < 65536 then [UInt8.ofNat (224 + n / 4096), UInt8.ofNat (128 + n / 64 % 64), UInt8.ofNat (128 + n % 64)]
    else [UInt8.ofNat (240 + n / 262144), UInt8.ofNat (128 + n / 4096 % 64), UInt8.ofNat (128 + n / 64 % 64), UInt8.ofNat (128 + n % 64)] := by
  rw [encB_N, enc_N n r hr (by rw [hr]; exact rune_ok n h)]
  exact encN_list n
theorem ofNat_toNat (n : Nat) (h : n < 256) : (UInt8.ofNat n).toNat = n := by simp; omega
theorem enc_valid (n : Nat) (r : Int) (hr : r = n) (h : n < 55296 ∨ 57343 < n ∧ n ≤ 1114111) : validD (encB r) = true := by
  rw [enc_bytes n r hr h]
  by_cases h1 : n < 128
  · rw [if_pos h1, validD_cons _ _ (by rw [ofNat_toNat n (by omega)]; exact h1)]; rfl
  rw [if_neg h1]
  have key : ∀ (u : Bs), 2 ≤ u.length → (decodeL u).2 = u.length → validD u = true := by
    intro u hu hd
    rw [validD_step u (by intro e; rw [e] at hu; simp at hu), if_neg (by omega), hd, List.drop_length]
    rfl
  by_cases h2 : n < 2048
  · rw [if_pos h2]
    refine key _ (by simp) ?_
    rw [dec_cons]
    simp only [List.length_cons, List.length_nil, List.getD_cons_zero, List.getD_cons_succ, ofNat_toNat (192 + n / 64) (by omega), ofNat_toNat (128 + n % 64) (by omega)]
    unfold decodeN
    rw [if_neg (by omega), if_pos (by omega), if_pos (by omega)]
  rw [if_neg h2]
  by_cases h3 : n < 65536
  · rw [if_pos h3]
    refine key _ (by simp) ?_
    rw [dec_cons]
    simp only [List.length_cons, List.length_nil, List.getD_cons_zero, List.getD_cons_succ, ofNat_toNat (224 + n / 4096) (by omega), ofNat_toNat (128 + n / 64 % 64) (by omega), ofNat_toNat (128 + n % 64) (by omega)]
    unfold decodeN
    rw [if_neg (by omega), if_neg (by omega), if_pos (by omega), if_pos (by omega)]
  · rw [if_neg h3]
    refine key _ (by simp) ?_
    rw [dec_cons]
    simp only [List.length_cons, List.length_nil, List.getD_cons_zero, List.getD_cons_succ, ofNat_toNat (240 + n / 262144) (by omega), ofNat_toNat (128 + n / 4096 % 64) (by omega), ofNat_toNat (128 + n / 64 % 64) (by omega), ofNat_toNat (128 + n % 64) (by omega)]
    unfold decodeN
    rw [if_neg (by omega), if_neg (by omega), if_neg (by omega), if_pos (by omega), if_pos (by omega)]
theorem hex4_lt' (s : Bs) (v : Nat) (h : hex4 s = some v) : v < 65536 := by
  unfold hex4 at h
  split at h
  · obtain ⟨a, b, c, d, hs⟩ : ∃ a b c d, s.take 4 = [a, b, c, d] := by
      rcases s with _ | ⟨a, _ | ⟨b, _ | ⟨c, _ | ⟨d, r⟩⟩⟩⟩
      · simp at *
      · simp at *
      · simp at *
      · simp at *
      · exact ⟨a, b, c, d, rfl⟩
    rw [hs] at h
    simp only [parse16] at h
    split at h
    · split at h
      · split at h
        · split at h
          · simp only [Option.some.injEq] at h; omega
          · cases h
        · cases h
      · cases h
    · cases h
  · cases h
theorem esc1_valid (c : Int) (t : Bs) (h : esc1 c = some t) : validD t = true := by
  unfold esc1 at h
  repeat' split at h
  all_goals first | (cases h; rfl) | cases h
theorem escC_valid (s t r : Bs) (h : escC s = .ok (t, r)) : validD t = true := by
  unfold escC at h
  split at h
  · rename_i x hx
    simp only [Except.ok.injEq, Prod.mk.injEq] at h
    obtain ⟨rfl, _⟩ := h
    exact esc1_valid _ _ hx
  · split at h
    · unfold escUC at h
      split at h
      · cases h
      · rename_i n hn
        have hn' := hex4_lt' _ _ hn
        split at h
        · rename_i hr
          simp only [Except.ok.injEq, Prod.mk.injEq] at h
          obtain ⟨rfl, _⟩ := h
          exact enc_valid n _ rfl (by omega)
        · rename_i hr
          split at h
          · cases h
          · split at h
            · split at h
              · rename_i m hm
                split at h
                · rename_i hb
                  simp only [Except.ok.injEq, Prod.mk.injEq] at h
                  obtain ⟨rfl, _⟩ := h
                  exact enc_valid (65536 + (n - 55296) * 1024 + m - 56320) _ (by omega) (by omega)
                · cases h
              · cases h
            · cases h
    · cases h
/-- What is read is UTF-8. -/
theorem wordC_valid : ∀ (k : Nat) (s x q : Bs), wordC k s = .ok (x, q) → validD x = true
  | 0, s, x, q, h => by cases h
  | k + 1, s, x, q, h => by
    have on : ∀ (a s' : Bs), validD a = true → onto a (wordC k s') = .ok (x, q) → validD x = true := by
      intro a s' ha h
      cases hw : wordC k s' with
      | error e => rw [hw] at h; cases h
      | ok y =>
        obtain ⟨y1, y2⟩ := y
        rw [hw] at h
        simp only [onto, Except.ok.injEq, Prod.mk.injEq] at h
        obtain ⟨rfl, _⟩ := h
        exact valid_append _ _ ha (wordC_valid k _ _ _ hw)
    rcases word_view s with rfl | ⟨h0, hb⟩ | ⟨c, r, rfl, hc⟩ | ⟨r, rfl⟩ | ⟨r, rfl⟩ | ⟨c, r, rfl, hc, h0, h1, h2⟩ | ⟨u, r, t, rfl, m⟩
    · rw [wordC_nil] at h; cases h
    · rw [wordC_bad k s h0 hb] at h; cases h
    · rw [wordC_ctl k c r hc] at h; cases h
    · rw [wordC_end] at h
      simp only [Except.ok.injEq, Prod.mk.injEq] at h
      obtain ⟨rfl, _⟩ := h
      rfl
    · rw [wordC_esc] at h
      cases he : escC r with
      | error e => rw [he] at h; cases h
      | ok y =>
        obtain ⟨t, r'⟩ := y
        rw [he] at h
        exact on t r' (escC_valid _ _ _ he) h
    · rw [wordC_plain k c r hc h0 h1 h2] at h
      exact on _ _ (by rw [validD_cons c [] hc]; rfl) h
    · rw [wordC_multi k u r t m] at h
      exact on _ _ m.self h
/-- What stands behind what was read, does not matter. -/
theorem escC_app (s t r z : Bs) (h : escC s = .ok (t, r)) : escC (s ++ z) = .ok (t, r ++ z) := by
  have hne : s ≠ [] := by rintro rfl; have := escC_len _ _ _ h; simp at this
  have hf : first (s ++ z) = first s := by cases s with | nil => exact absurd rfl hne | cons c l => rfl
  have hd : ∀ n, n ≤ s.length → (s ++ z).drop n = s.drop n ++ z := fun n hn => List.drop_append_of_le_length hn
  have hl : 0 < s.length := List.length_pos_iff.2 hne
  have h4 : ∀ (a : Bs) v, hex4 a = some v → hex4 (a ++ z) = some v := by
    intro a v ha
    have := hex4_len _ _ ha
    unfold hex4 at ha ⊢
    rw [if_pos this] at ha
    rw [if_pos (by rw [List.length_append]; omega), List.take_append_of_le_length this]
    exact ha
  have hp : ∀ (p a : Bs), p.isPrefixOf a = true → p.isPrefixOf (a ++ z) = true := by
    intro p a ha
    rw [List.isPrefixOf_iff_prefix] at ha ⊢
    exact ha.trans (List.prefix_append a z)
  unfold escC at h ⊢
  rw [hf]
  cases he : esc1 (first s) with
  | some x =>
    rw [he] at h
    simp only [Except.ok.injEq, Prod.mk.injEq] at h ⊢
    exact ⟨h.1, by rw [hd 1 hl, h.2]⟩
  | none =>
    rw [he] at h
    dsimp only at h ⊢
    split at h
    · rename_i hu
      rw [if_pos (hp _ _ hu), hd 1 hl]
      have hl1 : 1 ≤ s.length := hl
      unfold escUC at h ⊢
      split at h
      · cases h
      · rename_i n hn
        have l4 := hex4_len _ _ hn
        rw [List.length_drop] at l4
        have hd1 : ∀ n, n ≤ s.length - 1 → (s.drop 1 ++ z).drop n = (s.drop 1).drop n ++ z := fun n hn => List.drop_append_of_le_length (by rw [List.length_drop]; exact hn)
        rw [h4 _ _ hn]
        dsimp only
        split at h
        · rename_i hr
          rw [if_pos hr]
          simp only [Except.ok.injEq, Prod.mk.injEq] at h ⊢
          exact ⟨h.1, by rw [hd1 4 l4, h.2]⟩
        · rename_i hr
          rw [if_neg hr]
          split at h
          · cases h
          · rename_i hr2
            rw [if_neg hr2]
            split at h
            · rename_i hq
              have l6 := isPre_len hq
              simp at l6
              rw [hd1 4 l4, if_pos (hp _ _ hq)]
              split at h
              · rename_i m hm
                have l10 := hex4_len _ _ hm
                simp at l10
                rw [hd1 6 (by omega), h4 _ _ hm]
                dsimp only
                split at h
                · rename_i hb
                  rw [if_pos hb]
                  simp only [Except.ok.injEq, Prod.mk.injEq] at h ⊢
                  exact ⟨h.1, by rw [hd1 10 (by omega), h.2]⟩
                · cases h
              · cases h
            · cases h
    · cases h
theorem wordC_app (z : Bs) : ∀ (k : Nat) (s x q : Bs), wordC k s = .ok (x, q) → ∀ k', k ≤ k' → wordC k' (s ++ z) = .ok (x, q ++ z)
  | 0, s, x, q, h, _, _ => by cases h
  | k + 1, s, x, q, h, k', hk => by
    obtain ⟨k', rfl⟩ : ∃ m, k' = m + 1 := ⟨k' - 1, by omega⟩
    have on : ∀ (a s' : Bs), onto a (wordC k s') = .ok (x, q) → onto a (wordC k' (s' ++ z)) = .ok (x, q ++ z) := by
      intro a s' h
      cases hw : wordC k s' with
      | error e => rw [hw] at h; cases h
      | ok y =>
        obtain ⟨y1, y2⟩ := y
        rw [hw] at h
        rw [wordC_app z k s' y1 y2 hw k' (by omega)]
        simp only [onto, Except.ok.injEq, Prod.mk.injEq] at h ⊢
        exact ⟨h.1, by rw [h.2]⟩
    rcases word_view s with rfl | ⟨h0, hb⟩ | ⟨c, r, rfl, hc⟩ | ⟨r, rfl⟩ | ⟨r, rfl⟩ | ⟨c, r, rfl, hc, h0, h1, h2⟩ | ⟨u, r, t, rfl, m⟩
    · rw [wordC_nil] at h; cases h
    · rw [wordC_bad k s h0 hb] at h; cases h
    · rw [wordC_ctl k c r hc] at h; cases h
    · rw [wordC_end] at h
      rw [List.cons_append, wordC_end]
      simp only [Except.ok.injEq, Prod.mk.injEq] at h ⊢
      exact ⟨h.1, by rw [h.2]⟩
    · rw [wordC_esc] at h
      rw [List.cons_append, wordC_esc]
      cases he : escC r with
      | error e => rw [he] at h; cases h
      | ok y =>
        obtain ⟨t, r'⟩ := y
        rw [he] at h
        rw [escC_app _ _ _ z he]
        exact on t r' h
    · rw [wordC_plain k c r hc h0 h1 h2] at h
      rw [List.cons_append, wordC_plain k' c _ hc h0 h1 h2]
      exact on _ _ h
    · rw [wordC_multi k u r t m] at h
      rw [List.append_assoc, wordC_multi k' u r _ m]
      exact on _ _ h
end Go.Proofs.YtakgcaehkphepaaGreatDoor
