/- strings.IndexAny, ContainsAny at "+-_"; (*json.reader).number: four hexadecimal digits. -/
import Derived.Test.YtakgcaehkphepaaGreatDoorJi
import Derived.Lib.OthersKept
namespace Go.Proofs.YtakgcaehkphepaaGreatDoor
open Go.RowKit
set_option linter.unusedVariables false
set_option linter.unusedSimpArgs false

theorem encode_far (r : Int) (h0 : 128 ≤ r) (h1 : r ≤ 1114111) :
    ((Utf8.encode r).size = 2 ∧ ∀ p : 1 < (Utf8.encode r).size, 128 ≤ ((Utf8.encode r)[1]'p).toNat) ∨ ((Utf8.encode r).size = 3 ∧ ∀ p : 2 < (Utf8.encode r).size, 128 ≤ ((Utf8.encode r)[2]'p).toNat) ∨ (Utf8.encode r).size = 4 := by
  have hk : ∀ c : Nat, 128 ≤ (UInt8.ofNat (128 + c % 64)).toNat := by
    intro c
    have : (UInt8.ofNat (128 + c % 64)).toNat = (128 + c % 64) % 256 := by simp
    omega
  obtain ⟨c, hc, h128⟩ : ∃ c, (if Utf8.valid r then r.toNat else Utf8.runeError) = c ∧ 128 ≤ c := by
    refine ⟨_, rfl, ?_⟩
    split
    · omega
    · decide
  have hE : Utf8.encode r = if c < 0x80 then ⟨#[UInt8.ofNat c]⟩ else if c < 0x800 then ⟨#[UInt8.ofNat (0xC0 + c / 64), UInt8.ofNat (0x80 + c % 64)]⟩
    else if c < 0x10000 then ⟨#[UInt8.ofNat (0xE0 + c / 4096), UInt8.ofNat (0x80 + c / 64 % 64), UInt8.ofNat (0x80 + c % 64)]⟩
    else ⟨#[UInt8.ofNat (0xF0 + c / 262144), UInt8.ofNat (0x80 + c / 4096 % 64), UInt8.ofNat (0x80 + c / 64 % 64), UInt8.ofNat (0x80 + c % 64)]⟩ := by
    rw [← hc]; rfl
  rw [if_neg (by omega)] at hE
  by_cases h2 : c < 0x800
  · rw [if_pos h2] at hE
    rw [hE]
    exact .inl ⟨rfl, fun _ => hk c⟩
  · rw [if_neg h2] at hE
    by_cases h3 : c < 0x10000
    · rw [if_pos h3] at hE
      rw [hE]
      exact .inr (.inl ⟨rfl, fun _ => hk c⟩)
    · rw [if_neg h3] at hE
      rw [hE]
      exact .inr (.inr rfl)

set_option maxHeartbeats 1000000 in
set_option maxRecDepth 100000 in
theorem indexRune_invalid (r : Int) (h0 : 128 ≤ r) (hne : (r == 65533) = false) (hv : Lib.validRune r = false) (w : World) :
    Calls Tryz.prog 120 #[.string ⟨#[43, 45, 95]⟩, .int .i32 r] w fun e w' => e = .returned (.int .i64 (-1)) ∧ Fr none' w w' := by
  go_enter Tryz.func120, Tryz.ntmps120
  go_wp2_with (go_at_call 138; refine (Tryz.utf8_ValidRune _ _).mono ?_; rintro e w' ⟨rfl, rfl⟩; rw [hv])
  go_ret
  exact ⟨rfl, Fr.refl _ _⟩

theorem indexRune_pm_far (r : Int) (h0 : 128 ≤ r) (h1 : r ≤ 1114111) (w : World) :
    Calls Tryz.prog 120 #[.string ⟨#[43, 45, 95]⟩, .int .i32 r] w fun e w' => e = .returned (.int .i64 (-1)) ∧ Fr none' w w' := by
  cases hne : r == 65533 with
  | true =>
    have : r = 65533 := by simpa using hne
    subst this
    exact indexRune_err w
  | false =>
    cases hv : Lib.validRune r with
    | false => exact indexRune_invalid r h0 hne hv w
    | true =>
      rcases encode_far r h0 h1 with ⟨hs, hl⟩ | ⟨hs, hl⟩ | hs
      · exact indexRune_far2 r h0 h1 hne hv w _ rfl hs hl
      · exact indexRune_far3 r h0 h1 hne hv w _ rfl hs hl
      · refine (indexRune_far4 r h0 h1 hne hv w _ rfl hs).mono ?_
        rintro e w' ⟨rfl, rfl⟩
        exact ⟨rfl, Fr.refl _ _⟩

def isPm (x : UInt8) : Prop := x = 43 ∨ x = 45 ∨ x = 95
theorem indexByte_pm (x : UInt8) (h : 0 ≤ Lib.indexByte [43, 45, 95] x) : isPm x := by
  rcases Classical.em (isPm x) with h' | h'
  · exact h'
  · rw [ixByte_none] at h
    · exact absurd h (by decide)
    · intro y hy e
      simp at hy
      subst e
      exact h' hy

theorem decode_ge (s : ByteArray) (i : Nat) (h : i < s.size) (hb : 128 ≤ (s[i]'h).toNat) : 128 ≤ (Utf8.decode s i).1 := by
  have hg : (s.get! (i + 0)).toNat = (s[i]'h).toNat := by
    congr 1
    show s.data[i + 0]! = _
    rw [Nat.add_zero]
    exact getElem!_pos s.data i h
  unfold Utf8.decode
  simp only [hg]
  rw [if_neg (by omega)]
  have he : 128 ≤ Utf8.runeError := by decide
  repeat' split
  all_goals (try exact he)
  all_goals (first | (simp only [ge_iff_le, Bool.and_eq_true, decide_eq_true_eq] at *; omega) | omega)
theorem decode_le (s : ByteArray) (i : Nat) : (Utf8.decode s i).1 ≤ 1114111 := Lib.rune_le _ _

theorem Fr.iterAt {m : Nat → Prop} {w wx : World} (h : Fr m w wx) {k : Nat} (hk : m k ∨ w.heap.size ≤ k) (t : ByteArray) (p : Nat) : Fr m w (wx.iterAt k t p) :=
  h.call (m' := fun i => i = k) ⟨rfl, rfl, rfl, by rw [Lib.iterAt_size]; exact Nat.le_refl _, fun i _ hi => Lib.iterAt_other wx k i t _ hi⟩ (fun i hi => hi ▸ hk)

set_option maxHeartbeats 2000000 in
set_option maxRecDepth 100000 in
theorem indexAny_pm (s : Bs) (h8 : s.length ≤ 8) (w : World) :
    Calls Tryz.prog 159 #[.string (bs s), .string ⟨#[43, 45, 95]⟩] w fun e w' => (∃ v : Int, e = .returned (.int .i64 v) ∧ (0 ≤ v → ∃ x ∈ s, isPm x)) ∧ Fr none' w w' := by
  obtain ⟨t, ht⟩ : ∃ t, t = bs s := ⟨_, rfl⟩
  have hsz : t.size = s.length := by rw [ht, bs_size]
  have hmem : ∀ (i : Nat) (h : i < t.size), t[i]'h ∈ s := by
    subst ht
    intro i h
    rw [bs_get]
    exact List.getElem_mem _
  rw [← ht]
  have HM := Lib.hid hmem
  have h8z : decide ((8 : Int) < (t.size : Int)) = false := decide_eq_false (by omega)
  clear ht hmem hsz
  go_enter Tryz.func159, Tryz.ntmps159
  go_wp2_with (go_at_call 160; refine (Tryz.strings_shouldUseASCIISet _ _).mono ?_; rintro e w' ⟨rfl, hw⟩; rw [hw, h8z])
  go_loopg [9, 10] t.size (fun g _ _ wx => ∃ i : Nat, t.size ≤ i + g ∧ wx.heap[w.heap.size]? = some (.stringIter t i) ∧ Fr none' w wx)
  case atStart => exact ⟨0, by omega, alloc_new w _, (Fr.refl _ _).alloc _⟩
  case round =>
    obtain ⟨i, hig, hit, hfr⟩ := hrel
    have HF := Lib.hid hfr
    by_cases hi : i < t.size
    · have hnx := fun ty => Lib.run_next_any_at (P := Tryz.prog) _ w.heap.size t i ty hit hi
      have HI2 := Lib.hid (Lib.iterAt_heap _ w.heap.size t i (i + (Utf8.decode t i).2) hit)
      have HF2 := Lib.hid (hfr.iterAt (k := w.heap.size) (.inr (Nat.le_refl _)) t (i + (Utf8.decode t i).2))
      have hw := Lib.width_pos t i
      clear hfr hit
      cases gk with
      | zero => omega
      | succ g =>
        by_cases hb : (t[i]'hi).toNat < 128
        · have hd := decode_ascii t i hi hb
          rw [hd] at hnx HI2 HF2 hw
          clear hd
          have HX := Lib.hid (HM.out i hi)
          generalize t[i]'hi = x at *
          have hpm := indexByte_pm x
          have hback : ((x.toNat : Int)).toNat.toUInt8 = x := by simp
          by_cases hv : 0 ≤ Lib.indexByte [43, 45, 95] x
          · have HV := Lib.hid (hpm hv)
            clear hpm
            go_wp2_with (go_at_call 120; refine (Tryz.strings_IndexRune_ascii _ _ _ (by omega) (by omega)).mono ?_; rintro e w' ⟨rfl, hw⟩; rw [hw, hback])
            go_ret
            exact ⟨⟨_, rfl, fun _ => ⟨x, HX.out, HV.out⟩⟩, HF2.out⟩
          · clear hpm
            go_wp2_with (go_at_call 120; refine (Tryz.strings_IndexRune_ascii _ _ _ (by omega) (by omega)).mono ?_; rintro e w' ⟨rfl, hw⟩; rw [hw, hback])
            go_roundg g
            case measure => omega
            case rel => exact ⟨i + 1, by omega, HI2.out, HF2.out⟩
        · have hge := decode_ge t i hi (by omega)
          have hle := decode_le t i
          generalize Utf8.decode t i = d at *
          go_wp2_with (go_at_call 120; refine (indexRune_pm_far _ (by omega) (by omega) _).mono ?_; rintro e w1 ⟨rfl, f1⟩; have F1 := Lib.hid f1; clear f1)
          go_roundg g
          case measure => omega
          case rel => exact ⟨i + d.2, by omega, F1.out.get HI2.out id, HF2.out.trans F1.out⟩
    · have hnx := fun ty => Lib.run_next_end_at (P := Tryz.prog) _ w.heap.size t i ty hit hi
      clear hfr hit
      go_wp2
      go_ret
      exact ⟨⟨-1, rfl, fun h => absurd h (by decide)⟩, HF.out⟩

set_option maxHeartbeats 1000000 in
theorem containsAny_pm (s : Bs) (h8 : s.length ≤ 8) (w : World) :
    Calls Tryz.prog 154 #[.string (bs s), .string ⟨#[43, 45, 95]⟩] w fun e w' => (∃ v, e = .returned (.bool v) ∧ (v = true → ∃ x ∈ s, isPm x)) ∧ Fr none' w w' := by
  go_enter Tryz.func154, Tryz.ntmps154
  go_wp2_with (go_at_call 159; refine (indexAny_pm s h8 _).mono ?_; rintro e w1 ⟨⟨v, rfl, hv⟩, f1⟩; have F1 := Lib.hid f1; have HV := Lib.hid hv; clear f1 hv)
  go_ret
  exact ⟨⟨_, rfl, fun h => HV.out (of_decide_eq_true h)⟩, F1.out⟩
end Go.Proofs.YtakgcaehkphepaaGreatDoor
