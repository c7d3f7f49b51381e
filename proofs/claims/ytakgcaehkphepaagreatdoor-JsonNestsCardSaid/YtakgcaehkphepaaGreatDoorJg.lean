/- strconv.ParseUint at base 16 of at most four bytes; strings.IndexRune, ContainsAny at "+-_": (*json.reader).number: four hexadecimal digits. -/
import Derived.Test.YtakgcaehkphepaaGreatDoorJf
import Derived.Lib.ConvBytes
import Derived.Lib.AtoiAllMem
import Derived.BigCall
import Derived.BigGuard
import Derived.Laws.BitsLemmas
import Derived.BigQuiet
import Derived.Deep.QuietTactic
namespace Go.Proofs.YtakgcaehkphepaaGreatDoor
open Go.RowKit
set_option linter.unusedVariables false
set_option linter.unusedSimpArgs false

/-- A letter's small form, as Go's text has it. -/
def low (c : UInt8) : Int := bits .or .u8 (c.toNat : Int) 32
/-- A hexadecimal digit's number; 16: it is none. -/
def dg (c : UInt8) : Nat := if 48 ≤ c.toNat ∧ c.toNat ≤ 57 then c.toNat - 48 else if 97 ≤ low c ∧ low c ≤ 102 then (low c - 87).toNat else 16
def parse16 : Nat → Bs → Option Nat
  | acc, [] => some acc
  | acc, c :: r => if dg c < 16 then parse16 (acc * 16 + dg c) r else none
theorem dg_le (c : UInt8) : dg c ≤ 16 := by
  unfold dg
  split
  · omega
  · split <;> omega
def uint16R : Option Nat → Value
  | some n => .tuple #[.int .u64 n, .nilIface]
  | none => .tuple #[.int .u64 0, .iface 166 (.int .i64 2)]
theorem pow16 (k : Nat) (h : k < 4) : 16 ^ k * 16 ≤ 65536 := by
  match k, h with
  | 0, _ => decide
  | 1, _ => decide
  | 2, _ => decide
  | 3, _ => decide

set_option maxHeartbeats 32000000 in
set_option maxRecDepth 100000 in
theorem parseUint16_i (s : Bs) (hne : s ≠ []) (h4 : s.length ≤ 4) (w : World) :
    Calls Tryz.prog 125 #[.string (bs s), .int .i64 16, .int .i64 64] w fun e w' => e = .returned (uint16R (parse16 0 s)) ∧ w' = Lib.bytesWorld w 5 (bs s) := by
  have hemp : (bs s).toList.isEmpty = false := by rw [bs_toList]; cases s <;> simp_all
  have hcv := Lib.run_convert_string_bytes (P := Tryz.prog) w 9 88 5 (bs s) (u := .string) Tryz.underlying9 Tryz.underlying88 Tryz.underlying5
  have hB : ∀ j, j < s.length → (Lib.bytesWorld w 5 (bs s)).cell? ⟨w.heap.size, j, none⟩ = some (.int .u8 (s.getD j 0).toNat) := fun j hj => by
    have := Lib.bytesWorld_cell w 5 (bs s) j (by rw [bs_size]; exact hj)
    rwa [bs_data] at this
  have hsz := bs_size s
  obtain ⟨t, ht⟩ : ∃ t, t = bs s := ⟨_, rfl⟩
  rw [← ht] at hcv hB hemp hsz ⊢
  clear ht
  obtain ⟨W1, hW1⟩ : ∃ W1, W1 = Lib.bytesWorld w 5 t := ⟨_, rfl⟩
  rw [← hW1] at hcv hB ⊢
  clear hW1
  have hts : t.size ≤ 4 := by omega
  have hLn := Lib.hid hsz
  rw [← hsz] at hB
  clear hsz h4 hne
  have hmv : IntKind.u64.wrap (IntKind.u64.wrap 18446744073709551616 - 1) = 18446744073709551615 := by
    rw [IntKind.wrap_u64, IntKind.wrap_u64]
    decide
  go_enter Tryz.func125, Tryz.ntmps125
  go_wp2
  go_loop [12, 13, 101] (fun vu vn vi => ∃ (k acc : Nat) (a : Int), vu = .bool false ∧ vn = .int .u64 a ∧ vi = .int .i64 k ∧ k ≤ t.size ∧ Hid (a = (acc : Int) ∧ acc < 16 ^ k ∧ parse16 0 s = parse16 acc (s.drop k)))
    (fun _ _ vi => t.size - (intOf vi).toNat)
  case atStart => exact ⟨0, 0, 0, rfl, rfl, rfl, by omega, rfl, by decide, rfl⟩
  case round =>
    obtain ⟨k, acc, a, rfl, rfl, rfl, hk, hh⟩ := hrel
    obtain ⟨ha, hacc, hdec⟩ := hh.out
    clear hh
    by_cases hkn : k < t.size
    · have hc := hB k hkn
      have hkl : k < s.length := by have := hLn.out; omega
      have hdrop : s.drop k = s[k]'hkl :: s.drop (k + 1) := List.drop_eq_getElem_cons hkl
      have hget : s.getD k 0 = s[k]'hkl := by simp [List.getD, List.getElem?_eq_getElem hkl]
      rw [hdrop] at hdec
      rw [hget] at hc
      generalize s[k]'hkl = c at hc hdec
      have hc256 : c.toNat < 256 := c.toNat_lt
      have hp := pow16 k (by omega)
      have hpk : 16 ^ (k + 1) = 16 ^ k * 16 := Nat.pow_succ ..
      have a0 : 0 ≤ a := by omega
      have a1 : a < 65536 := by omega
      clear hB hdrop hget
      have hv0 := bits_lo_u8 .or (c.toNat : Int) 32
      have hv1 := bits_hi_u8 .or (c.toNat : Int) 32
      have hl : low c = bits .or .u8 (c.toNat : Int) 32 := rfl
      by_cases hdig : 48 ≤ c.toNat ∧ c.toNat ≤ 57
      · obtain ⟨hd0, hd1⟩ := hdig
        have hd : dg c = c.toNat - 48 := by simp [dg, hd0, hd1]
        have hF : parse16 acc (c :: s.drop (k + 1)) = parse16 (acc * 16 + (c.toNat - 48)) (s.drop (k + 1)) := by simp only [parse16, hd]; rw [if_pos (by omega)]
        have HN : Hid (a * 16 + ((c.toNat : Int) - 48) = ((acc * 16 + (c.toNat - 48) : Nat) : Int) ∧ acc * 16 + (c.toNat - 48) < 16 ^ (k + 1) ∧ parse16 0 s = parse16 (acc * 16 + (c.toNat - 48)) (s.drop (k + 1))) := Lib.hid ⟨by omega, by omega, hdec.trans hF⟩
        have hb : a * 16 + ((c.toNat : Int) - 48) < 18446744073709551616 := by omega
        clear hF hdec ha hacc hp hpk hd hl hv0 hv1
        go_wp2
        refine ⟨⟨k + 1, acc * 16 + (c.toNat - 48), a * 16 + ((c.toNat : Int) - 48), rfl, (by first | rfl | (congr 1; omega)), (by first | rfl | (congr 1; omega)), by omega, HN⟩, by simp [intOf]; omega⟩
      · by_cases hal : 97 ≤ low c ∧ low c ≤ 102
        · obtain ⟨hd0, hd1⟩ := hal
          have hd : dg c = (low c - 87).toNat := by unfold dg; rw [if_neg hdig, if_pos ⟨hd0, hd1⟩]
          have hF : parse16 acc (c :: s.drop (k + 1)) = parse16 (acc * 16 + (low c - 87).toNat) (s.drop (k + 1)) := by simp only [parse16, hd]; rw [if_pos (by omega)]
          generalize hlc : low c = lc at *
          have HN : Hid (a * 16 + (lc - 97 + 10) = ((acc * 16 + (lc - 87).toNat : Nat) : Int) ∧ acc * 16 + (lc - 87).toNat < 16 ^ (k + 1) ∧ parse16 0 s = parse16 (acc * 16 + (lc - 87).toNat) (s.drop (k + 1))) := Lib.hid ⟨by omega, by omega, hdec.trans hF⟩
          have h95 : ((c.toNat : Int) == 95) = false := by
            rw [beq_eq_false_iff_ne]
            intro e
            rw [e] at hl
            have : bits .or .u8 95 32 = 127 := by decide
            omega
          have HL := Lib.hid hl.symm
          have hcd : ¬ (48 ≤ (c.toNat : Int) ∧ (c.toNat : Int) ≤ 57) := by omega
          clear hF hdec ha hacc hp hpk hd hl hv0 hv1 hlc hdig
          have g1 : decide (48 ≤ (c.toNat : Int)) = true ∨ decide (48 ≤ (c.toNat : Int)) = false := by cases decide (48 ≤ (c.toNat : Int)) <;> simp
          rcases Int.lt_or_le (c.toNat : Int) 48 with h48 | h48
          · go_wp2_with (go_at_call 143; refine (Tryz.internal_strconv_lower _ _).mono ?_; rintro e w' ⟨rfl, rfl⟩; rw [HL.out])
            refine ⟨⟨k + 1, acc * 16 + (lc - 87).toNat, a * 16 + (lc - 97 + 10), rfl, (by first | rfl | (congr 1; omega)), (by first | rfl | (congr 1; omega)), by omega, HN⟩, by simp [intOf]; omega⟩
          · have h57 : ¬ (c.toNat : Int) ≤ 57 := by omega
            go_wp2_with (go_at_call 143; refine (Tryz.internal_strconv_lower _ _).mono ?_; rintro e w' ⟨rfl, rfl⟩; rw [HL.out])
            refine ⟨⟨k + 1, acc * 16 + (lc - 87).toNat, a * 16 + (lc - 97 + 10), rfl, (by first | rfl | (congr 1; omega)), (by first | rfl | (congr 1; omega)), by omega, HN⟩, by simp [intOf]; omega⟩
        · have hd : dg c = 16 := by unfold dg; rw [if_neg hdig, if_neg hal]
          have hF : parse16 acc (c :: s.drop (k + 1)) = none := by simp only [parse16, hd]; rw [if_neg (by omega)]
          rw [hF] at hdec
          have HD := Lib.hid hdec
          rw [hl] at hal
          have hal' : bits .or .u8 (c.toNat : Int) 32 < 97 ∨ 102 < bits .or .u8 (c.toNat : Int) 32 := by omega
          have hu : bits .or .u8 95 32 = 127 := by decide
          clear hF hp hpk hd ha hacc hl hal hdec
          rcases hal' with hal | hal
          · go_wp2_with (go_at_call 143; refine (Tryz.internal_strconv_lower _ _).mono ?_; rintro e w' ⟨rfl, rfl⟩)
            all_goals go_ret2
            all_goals exact ⟨by rw [HD.out]; rfl, rfl⟩
          · go_wp2_with (go_at_call 143; refine (Tryz.internal_strconv_lower _ _).mono ?_; rintro e w' ⟨rfl, rfl⟩)
            all_goals go_ret2
            all_goals exact ⟨by rw [HD.out]; rfl, rfl⟩
    · have hkk : k = t.size := by omega
      subst hkk
      have hF : parse16 acc (s.drop t.size) = some acc := by rw [hLn.out, List.drop_length]; rfl
      rw [hF] at hdec
      subst ha
      have hb : acc < 65536 := by
        have : 16 ^ t.size ≤ 65536 := by
          match t.size, hts with
          | 0, _ => decide
          | 1, _ => decide
          | 2, _ => decide
          | 3, _ => decide
          | 4, _ => decide
        omega
      clear hacc hB
      have HD := Lib.hid hdec
      clear hdec
      go_wp2
      go_ret2
      exact ⟨by rw [HD.out]; rfl, rfl⟩
end Go.Proofs.YtakgcaehkphepaaGreatDoor
