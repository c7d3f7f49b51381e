/- Plain law: what the program tells of values; a number's text is read as the number. No program here. -/
import Derived.Test.YtakgcaehkphepaaGreatDoorPd
import Derived.Lib.ItoaNum
import Derived.Lib.ParseIntBCases
import Derived.Lib.Join
namespace Go.Proofs.YtakgcaehkphepaaGreatDoor
open Go.Lib
set_option linter.unusedVariables false
set_option linter.unusedSimpArgs false

/-! ### Telling -/
def bareB (j : J) : Bool := !j.yes && decide (j.n = 0) && decide (j.s = [])
def plainB (j : J) : Bool := decide (j.l.length = 0) && decide (j.keys.length = 0)
/-- Are they an object's? (those ahead first) -/
def keysB : List Bs → List Bs → Bool
  | _, [] => true
  | pre, k :: r => validD k && decide (k ∉ pre) && keysB (pre ++ [k]) r
def leafR (j : J) : Bool :=
  if j.kind = 0 then plainB j && bareB j
  else if j.kind = 1 then plainB j && decide (j.n = 0) && decide (j.s = [])
  else if j.kind = 2 then plainB j && !j.yes && decide (j.s = [])
  else if j.kind = 3 then plainB j && !j.yes && decide (j.n = 0) && validD j.s
  else false
def rightM : Nat → J → Bool
  | 0, j => leafR j
  | k + 1, j =>
    if j.kind = 4 then bareB j && decide (j.keys.length = 0) && j.l.all (rightM k)
    else if j.kind = 5 then bareB j && decide (j.keys.length = j.l.length) && keysB [] j.keys && j.l.all (rightM k)
    else leafR j
def pairsM (ks ts : List Bs) : List Bs := List.zipWith (fun k t => quoteB k ++ 58 :: t) ks ts
mutual
def textM : J → Bs
  | .mk kind yes n s keys l =>
    if kind = 1 then (if yes then sTrue else sFalse)
    else if kind = 2 then itoa n
    else if kind = 3 then quoteB s
    else if kind = 4 then 91 :: (join (textsM l) [44] ++ [93])
    else if kind = 5 then 123 :: (join (pairsM keys (textsM l)) [44] ++ [125])
    else sNull
def textsM : List J → List Bs
  | [] => []
  | j :: l => textM j :: textsM l
end
theorem textsM_map : ∀ l : List J, textsM l = l.map textM
  | [] => rfl
  | j :: l => by rw [textsM, textsM_map l]; rfl
mutual
def sameM : J → J → Bool
  | .mk k y n s ks l, .mk k' y' n' s' ks' l' => decide (k = k') && (y == y') && decide (n = n') && decide (s = s') && decide (ks = ks') && samesM l l'
def samesM : List J → List J → Bool
  | [], [] => true
  | a :: l, b :: m => sameM a b && samesM l m
  | _, _ => false
end
mutual
theorem sameM_eq : ∀ a b : J, sameM a b = true ↔ a = b
  | .mk k y n s ks l, .mk k' y' n' s' ks' l' => by
    have := samesM_eq l l'
    simp [sameM, this, and_assoc]
theorem samesM_eq : ∀ l m : List J, samesM l m = true ↔ l = m
  | [], [] => by simp [samesM]
  | [], b :: m => by simp [samesM]
  | a :: l, [] => by simp [samesM]
  | a :: l, b :: m => by
    have h1 := sameM_eq a b
    have h2 := samesM_eq l m
    simp [samesM, h1, h2]
end
theorem sameM_refl (a : J) : sameM a a = true := (sameM_eq a a).2 rfl
/-- A key's item. -/
def getM (j : J) (key : Bs) : Option J := if j.kind = 5 then (j.keys.findIdx? (· = key)).bind fun i => j.l[i]? else none
mutual
/-- Are its numbers int64? -/
def numOk : J → Bool
  | .mk _ _ n _ _ l => decide (-9223372036854775808 ≤ n) && decide (n ≤ 9223372036854775807) && numsOk l
def numsOk : List J → Bool
  | [] => true
  | j :: l => numOk j && numsOk l
end
theorem numsOk_all : ∀ l : List J, numsOk l = l.all numOk
  | [] => rfl
  | j :: l => by rw [numsOk, numsOk_all l]; rfl
def printM (j : J) : Bs × Int := if rightM 64 j then (textM j, 0) else ([], 150)
def shortB (s : Bs) : Bs := s.take 50
def fewM : Nat → J → J
  | 0, j => .mk j.kind j.yes j.n (shortB j.s) ((j.keys.take 6).map shortB) []
  | d + 1, j => .mk j.kind j.yes j.n (shortB j.s) ((j.keys.take 6).map shortB) ((j.l.take 6).map (fewM d))

/-! ### Numbers -/
def isDig (c : UInt8) : Prop := 48 ≤ c.toNat ∧ c.toNat ≤ 57
theorem dec_digits : ∀ u : Nat, ∀ c ∈ decDigits u, isDig c := by
  intro u
  induction u using Nat.strongRecOn with
  | _ u ih =>
    intro c hc
    have hd : ∀ d, d < 10 → isDig (UInt8.ofNat (48 + d)) := fun d hd => by unfold isDig; rw [ofNat_toNat _ (by omega)]; omega
    by_cases h : u < 10
    · rw [decDigits, dif_pos h, List.mem_singleton] at hc
      rw [hc]; exact hd u h
    · rw [decDigits, dif_neg h, List.mem_append, List.mem_singleton] at hc
      rcases hc with hc | hc
      · exact ih _ (by omega) c hc
      · rw [hc]; exact hd _ (by omega)
theorem dec_head (u : Nat) : ∃ c r, decDigits u = c :: r ∧ isDig c ∧ (c.toNat = 48 → r = []) := by
  induction u using Nat.strongRecOn with
  | _ u ih =>
    by_cases h : u < 10
    · rw [decDigits, dif_pos h]
      exact ⟨_, [], rfl, by unfold isDig; rw [ofNat_toNat _ (by omega)]; omega, fun _ => rfl⟩
    · obtain ⟨c, r, e, hd, hz⟩ := ih (u / 10) (by omega)
      rw [decDigits, dif_neg h, e]
      refine ⟨c, r ++ [UInt8.ofNat (48 + u % 10)], rfl, hd, fun h0 => ?_⟩
      have hr := hz h0
      subst hr
      exfalso
      by_cases h2 : u / 10 < 10
      · rw [decDigits, dif_pos h2] at e
        injection e with e _
        rw [← e, ofNat_toNat _ (by omega)] at h0
        omega
      · rw [decDigits, dif_neg h2] at e
        have := congrArg List.length e
        obtain ⟨c', r', e', _, _⟩ := ih (u / 10 / 10) (by omega)
        rw [e'] at this
        simp at this
theorem parse_snoc (M : Nat) (c : UInt8) : ∀ (l : Bs) (acc x : Nat), parseUintM M acc l = .ok x → parseUintM M acc (l ++ [c]) = parseUintM M x [c]
  | [], acc, x, h => by cases h; rfl
  | d :: r, acc, x, h => by
    rw [List.cons_append]
    unfold parseUintM at h ⊢
    split at h
    · rename_i h1
      rw [if_pos h1]
      split at h
      · cases h
      · rename_i h2
        rw [if_neg h2]
        split at h
        · cases h
        · rename_i h3
          rw [if_neg h3]
          exact parse_snoc M c r _ _ h
    · cases h
theorem parse_dec (M : Nat) (hM : M ≤ 18446744073709551615) : ∀ u : Nat, u ≤ M → parseUintM M 0 (decDigits u) = .ok u := by
  intro u
  induction u using Nat.strongRecOn with
  | _ u ih =>
    intro hu
    have step : ∀ x d, d < 10 → x * 10 + d ≤ M → parseUintM M x [UInt8.ofNat (48 + d)] = .ok (x * 10 + d) := by
      intro x d hd hx
      have ht := ofNat_toNat (48 + d) (by omega)
      unfold parseUintM
      rw [ht, if_pos (by omega), if_neg (by omega), if_neg (by omega)]
      unfold parseUintM
      rw [show 48 + d - 48 = d by omega]
    by_cases h : u < 10
    · rw [decDigits, dif_pos h]
      have := step 0 u h (by omega)
      rw [this]
      congr 1
      omega
    · rw [decDigits, dif_neg h, parse_snoc M _ _ 0 (u / 10) (ih _ (by omega) (by omega)), step _ _ (by omega) (by omega)]
      congr 1
      omega
theorem mem_digits10 (c : UInt8) : digits10.contains c = true ↔ isDig c := by
  unfold isDig
  have key : ∀ n : Fin 256, (digits10.contains (UInt8.ofNat n.val) = true ↔ 48 ≤ n.val ∧ n.val ≤ 57) := by decide +kernel
  have := key ⟨c.toNat, c.toNat_lt⟩
  simpa using this
/-- What no digit begins. -/
def noDig (t : Bs) : Prop := ∀ c r, t = c :: r → ¬ isDig c
theorem trim_app (D t : Bs) (hD : ∀ c ∈ D, isDig c) (ht : noDig t) : trimD (D ++ t) = t := by
  show (D ++ t).dropWhile (digits10.contains ·) = t
  induction D with
  | nil =>
    cases t with
    | nil => rfl
    | cons c r =>
      rw [List.nil_append, List.dropWhile_cons, if_neg]
      intro h
      exact ht c r rfl ((mem_digits10 c).1 h)
  | cons c r ih =>
    rw [List.cons_append, List.dropWhile_cons, if_pos ((mem_digits10 c).2 (hD c (by simp)))]
    exact ih (fun d hd => hD d (by simp [hd]))
theorem cut_minus (r : Bs) : cutPre (45 :: r) [45] = r := by simp [cutPre, List.isPrefixOf]
theorem cut_other (c : UInt8) (r : Bs) (h : c ≠ 45) : cutPre (c :: r) [45] = c :: r := by
  unfold cutPre
  rw [isPre1, if_neg (by simpa using fun e => h e.symm)]
theorem dec_len (u : Nat) : 0 < (decDigits u).length := by
  obtain ⟨c, r, e, _, _⟩ := dec_head u
  rw [e]; simp
theorem okI_of {s : Bs} {v : Int} (h : parseIntB 64 s = .ok v) : okI s = true ∧ numI s = v := by
  unfold okI numI
  rw [h]
  exact ⟨rfl, rfl⟩
/-- A number's text, and what is behind it. -/
theorem dig_itoa (n : Int) (h0 : -9223372036854775808 ≤ n) (h1 : n ≤ 9223372036854775807) (t : Bs) (ht : noDig t) :
    digText (itoa n ++ t) = itoa n ∧ digBad (itoa n ++ t) = false ∧ numI (itoa n) = n ∧ (∃ c r, itoa n = c :: r ∧ (c = 45 ∨ isDig c)) := by
  by_cases hn : n < 0
  · have e : itoa n = 45 :: decDigits n.natAbs := by unfold itoa; rw [if_pos hn]
    have hp := parse_dec 18446744073709551615 (Nat.le_refl _) n.natAbs (by omega)
    have hl := dec_len n.natAbs
    have hz := dec_head n.natAbs
    have hD := dec_digits n.natAbs
    rw [e]
    generalize hu : decDigits n.natAbs = D at *
    have hne : D ≠ [] := List.length_pos_iff.1 hl
    have hcut : cutPre (45 :: D ++ t) [45] = D ++ t := cut_minus (D ++ t)
    have hdn : digN (45 :: D ++ t) = D.length := by
      unfold digN
      rw [hcut, trim_app D t hD ht, List.length_append]; omega
    have htx : digText (45 :: D ++ t) = 45 :: D := by
      unfold digText
      rw [hcut, hdn]
      simp only [List.cons_append, List.length_cons, List.length_append]
      rw [show D.length + t.length + 1 - (D.length + t.length) + D.length = D.length + 1 by omega, List.take_succ_cons, List.take_left]
    have hpi : parseIntB 64 (45 :: D) = .ok n := by
      rw [parseIntB_minus]
      unfold parseUintB
      rw [if_neg hne, hp]
      unfold signedC
      simp only
      rw [if_neg (by omega)]
      congr 1
      omega
    refine ⟨htx, ?_, (okI_of hpi).2, 45, D, rfl, .inl rfl⟩
    unfold digBad
    rw [htx, (okI_of hpi).1, hcut, hdn, List.take_left]
    obtain ⟨c, r, rfl, _, h48⟩ := hz
    cases r with
    | nil => rfl
    | cons a b => simp only [lead0, Bool.not_true, Bool.false_or, decide_eq_false_iff_not]; intro h; exact absurd (h48 h) (by simp)
  · have e : itoa n = decDigits n.toNat := by unfold itoa; rw [if_neg hn]
    have hp := parse_dec 18446744073709551615 (Nat.le_refl _) n.toNat (by omega)
    have hl := dec_len n.toNat
    have hz := dec_head n.toNat
    have hD := dec_digits n.toNat
    rw [e]
    generalize hu : decDigits n.toNat = D at *
    have hne : D ≠ [] := List.length_pos_iff.1 hl
    obtain ⟨c, r, rfl, hc, h48⟩ := hz
    have h45 : c ≠ 45 := by rintro rfl; unfold isDig at hc; revert hc; decide
    have hcut : cutPre (c :: r ++ t) [45] = c :: r ++ t := cut_other c (r ++ t) h45
    have hdn : digN (c :: r ++ t) = (c :: r).length := by
      unfold digN
      rw [hcut, trim_app (c :: r) t hD ht, List.length_append]; omega
    have htx : digText (c :: r ++ t) = c :: r := by
      unfold digText
      rw [hcut, hdn, Nat.sub_self, Nat.zero_add, List.take_left]
    have hpi : parseIntB 64 (c :: r) = .ok n := by
      rw [parseIntB_plain 64 c r (by unfold isDig at hc; omega) (by unfold isDig at hc; omega)]
      unfold parseUintB
      rw [if_neg hne, hp]
      unfold signlessC
      simp only
      rw [if_neg (by omega)]
      congr 1
      omega
    refine ⟨htx, ?_, (okI_of hpi).2, c, r, rfl, .inr hc⟩
    unfold digBad
    rw [htx, (okI_of hpi).1, hcut, hdn, List.take_left]
    cases r with
    | nil => rfl
    | cons a b => simp only [lead0, Bool.not_true, Bool.false_or, decide_eq_false_iff_not]; intro h; exact absurd (h48 h) (by simp)
end Go.Proofs.YtakgcaehkphepaaGreatDoor
