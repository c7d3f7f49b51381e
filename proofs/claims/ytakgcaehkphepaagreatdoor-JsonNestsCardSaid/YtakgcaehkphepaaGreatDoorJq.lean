/- (*json.reader).escape: its contract whole. -/
import Derived.Test.YtakgcaehkphepaaGreatDoorJp
namespace Go.Proofs.YtakgcaehkphepaaGreatDoor
open Go.RowKit
set_option linter.unusedVariables false
set_option linter.unusedSimpArgs false

theorem drop_drop' (s : Bs) (a b c : Nat) (h : a + b = c) : (s.drop a).drop b = s.drop c := by rw [List.drop_drop, h]
set_option maxRecDepth 100000 in
theorem escape_r (p : Value) (b : Nat) (s : Bs) (d : Int) (o : Option Int) (w : World) (h : RS p w b s d o) :
    Calls Tryz.prog 122 #[.pointer (some ⟨b, 0, none⟩)] w fun e w' => e = .returned (.string (bs (escM s o).1)) ∧ RS p w' b (escM s o).2.1 d (escM s o).2.2 ∧ Fr (· = b) w w' := by
  cases h1 : esc1 (first s) with
  | some t =>
    cases s with
    | nil => simp [esc1, first] at h1
    | cons c l =>
      have e : escM (c :: l) o = (t, l, o) := by unfold escM; rw [h1]; rfl
      rw [e]
      dsimp only
      exact escape_one p b c l d o w h t h1
  | none =>
    cases hp : List.isPrefixOf [117] s with
    | false =>
      have e : escM s o = ([], s, failE o 150) := by unfold escM; rw [h1, hp]; rfl
      rw [e]
      dsimp only
      exact escape_bad p b s d o w h h1 hp
    | true =>
      obtain ⟨l, rfl⟩ : ∃ l, s = 117 :: l := by
        obtain ⟨l, hl⟩ := List.isPrefixOf_iff_prefix.1 hp
        exact ⟨l, hl.symm⟩
      have e : escM (117 :: l) o = escU l o := by unfold escM; rw [h1, hp]; rfl
      rw [e]
      clear e hp h1
      cases hx : hex4 l with
      | none =>
        have e : escU l o = ([], l, failE o 150) := by unfold escU; rw [hx]
        rw [e]
        dsimp only
        exact escU0 p b l d o w h hx
      | some n =>
        have hn := hex4_lt l n hx
        by_cases h1 : n < 55296
        · have e : escU l o = (encB n, l.drop 4, o) := by unfold escU; rw [hx]; simp only; rw [if_pos (.inl h1)]
          rw [e]
          dsimp only
          exact escU1a p b l d o w h n hx hn h1
        · by_cases h2 : 57343 < n
          · have e : escU l o = (encB n, l.drop 4, o) := by unfold escU; rw [hx]; simp only; rw [if_pos (.inr h2)]
            rw [e]
            dsimp only
            exact escU1b p b l d o w h n hx hn h2
          · by_cases h3 : 56320 ≤ n
            · have e : escU l o = ([], l.drop 4, failE o 152) := by unfold escU; rw [hx]; simp only; rw [if_neg (by omega), if_pos h3]
              rw [e]
              dsimp only
              exact escU2 p b l d o w h n hx hn h3 (by omega)
            · cases hp : List.isPrefixOf [92, 117] (l.drop 4) with
              | false =>
                have e : escU l o = ([], l.drop 4, failE o 152) := by unfold escU; rw [hx]; simp only; rw [if_neg (by omega), if_neg h3, hp]; rfl
                rw [e]
                dsimp only
                exact escU3 p b l d o w h n hx hn (by omega) (by omega) hp
              | true =>
                have h6 := drop_drop' l 4 2 6 rfl
                have h10 := drop_drop' l 6 4 10 rfl
                cases hy : hex4 (l.drop 6) with
                | none =>
                  have e : escU l o = ([], l.drop 6, failE o 152) := by unfold escU; rw [hx]; simp only; rw [if_neg (by omega), if_neg h3, hp, hy]; rfl
                  rw [e]
                  dsimp only
                  have := escU4 p b l d o w h n hx hn (by omega) (by omega) hp (by rw [h6]; exact hy)
                  rwa [h6] at this
                | some m =>
                  have hm := hex4_lt _ m hy
                  by_cases h4 : m < 56320
                  · have e : escU l o = ([], l.drop 10, failE o 152) := by unfold escU; rw [hx]; simp only; rw [if_neg (by omega), if_neg h3, hp, hy]; simp only [if_true]; rw [if_neg (by omega)]
                    rw [e]
                    dsimp only
                    have := escU5a p b l d o w h n hx hn (by omega) (by omega) hp m (by rw [h6]; exact hy) hm h4
                    rwa [h6, h10] at this
                  · by_cases h5 : 57343 < m
                    · have e : escU l o = ([], l.drop 10, failE o 152) := by unfold escU; rw [hx]; simp only; rw [if_neg (by omega), if_neg h3, hp, hy]; simp only [if_true]; rw [if_neg (by omega)]
                      rw [e]
                      dsimp only
                      have := escU5b p b l d o w h n hx hn (by omega) (by omega) hp m (by rw [h6]; exact hy) hm h5
                      rwa [h6, h10] at this
                    · have e : escU l o = (encB (65536 + ((n : Int) - 55296) * 1024 + m - 56320), l.drop 10, o) := by unfold escU; rw [hx]; simp only; rw [if_neg (by omega), if_neg h3, hp, hy]; simp only [if_true]; rw [if_pos (by omega)]
                      rw [e]
                      dsimp only
                      have := escU6 p b l d o w h n hx hn (by omega) (by omega) hp m (by rw [h6]; exact hy) hm (by omega) (by omega)
                      rwa [h6, h10] at this
end Go.Proofs.YtakgcaehkphepaaGreatDoor
