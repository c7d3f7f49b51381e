/- (*json.reader).escape: what stands behind a backslash. -/
import Derived.Test.YtakgcaehkphepaaGreatDoorJm
namespace Go.Proofs.YtakgcaehkphepaaGreatDoor
open Go.RowKit
set_option linter.unusedVariables false
set_option linter.unusedSimpArgs false

def encB (r : Int) : Bs := (Utf8.encode r).data.toList
theorem encB_bs (r : Int) : bs (encB r) = Utf8.encode r := (bs_of _).symm

/-- What stands behind 'u': the text, what is left, what is wrong. -/
def escU (s : Bs) (o : Option Int) : Bs × Bs × Option Int :=
  match hex4 s with
  | none => ([], s, failE o 150)
  | some n =>
    if n < 55296 ∨ 57343 < n then (encB n, s.drop 4, o)
    else if 56320 ≤ n then ([], s.drop 4, failE o 152)
    else if [92, 117].isPrefixOf (s.drop 4) then
      match hex4 (s.drop 6) with
      | some m => if 56320 ≤ m ∧ m ≤ 57343 then (encB (65536 + ((n : Int) - 55296) * 1024 + m - 56320), s.drop 10, o) else ([], s.drop 10, failE o 152)
      | none => ([], s.drop 6, failE o 152)
    else ([], s.drop 4, failE o 152)
/-- What stands behind a backslash. -/
def escM (s : Bs) (o : Option Int) : Bs × Bs × Option Int :=
  match esc1 (first s) with
  | some t => (t, s.drop 1, o)
  | none => if [117].isPrefixOf s then escU (s.drop 1) o else ([], s, failE o 150)

set_option maxHeartbeats 2000000 in
set_option maxRecDepth 100000 in
theorem escape_bad (p : Value) (b : Nat) (s : Bs) (n : Int) (o : Option Int) (w : World) (h : RS p w b s n o) (ht : esc1 (first s) = none) (hp : List.isPrefixOf [117] s = false) :
    Calls Tryz.prog 122 #[.pointer (some ⟨b, 0, none⟩)] w fun e w' => e = .returned (.string (bs [])) ∧ RS p w' b s n (failE o 150) ∧ Fr (· = b) w w' := by
  have hm1 : (w.alloc (.map escMap 8)).drew.heap[w.heap.size]? = some (.map escMap 8) := alloc_new w _
  have hl1 := esc_none _ _ hm1 (first s) ht
  have R1 := Lib.hid (h.alloc (.map escMap 8))
  have H := Lib.hid h
  have HP := Lib.hid hp
  clear hm1 h hp
  go_enter Tryz.func122, Tryz.ntmps122
  go_wp2
  go_region_with (first
    | (go_at_call 141; refine (escaped_c _).mono ?_; rintro e w' ⟨rfl, rfl⟩)
    | (go_at_call 49; refine (first_c b s n _ _ (by first | exact H.out.rd.alloc _ | exact H.out.rd)).mono ?_; rintro e w' ⟨rfl, rfl⟩))
  all_goals
    go_wp2_with fail
    refine (take_r p b s [117] n o _ R1.out.drew).mono ?_
    rintro e w2 ⟨rfl, r2, f2⟩
    rw [HP.out]
    rw [cutPre_no HP.out] at r2
    have R2 := Lib.hid r2
    have F2 := Lib.hid f2
    clear r2 f2
    go_wp2_with fail
    refine (fail_r p b s n 150 o _ R2.out).mono ?_
    rintro e w3 ⟨rfl, r3, f3⟩
    have R3 := Lib.hid r3
    have F3 := Lib.hid f3
    clear r3 f3
    go_wp2
    go_ret
    exact ⟨rfl, R3.out, ((((Fr.refl (· = b) w).alloc _).drew).trans F2.out).trans F3.out⟩
end Go.Proofs.YtakgcaehkphepaaGreatDoor
