/- (*json.reader).escape. -/
import Derived.Test.YtakgcaehkphepaaGreatDoorJl
namespace Go.Proofs.YtakgcaehkphepaaGreatDoor
open Go.RowKit
set_option linter.unusedVariables false
set_option linter.unusedSimpArgs false

set_option maxHeartbeats 2000000 in
set_option maxRecDepth 100000 in
theorem escape_one (p : Value) (b : Nat) (c : UInt8) (l : Bs) (n : Int) (o : Option Int) (w : World) (h : RS p w b (c :: l) n o) (t : Bs) (ht : esc1 c.toNat = some t) :
    Calls Tryz.prog 122 #[.pointer (some ⟨b, 0, none⟩)] w fun e w' => e = .returned (.string (bs t)) ∧ RS p w' b l n o ∧ Fr (· = b) w w' := by
  have hm1 : (w.alloc (.map escMap 8)).drew.heap[w.heap.size]? = some (.map escMap 8) := alloc_new w _
  have hl1 := esc_hit _ _ hm1 c.toNat t ht
  have R1 := Lib.hid (h.alloc (.map escMap 8))
  have c1 : (w.alloc (.map escMap 8)).cell? ⟨b, 0, none⟩ = some (.string (bs (c :: l))) := R1.out.rd.c0
  have f1 : (w.alloc (.map escMap 8)).frozen? ⟨b, 0, none⟩ = false := R1.out.rd.fz 0
  have hx : (bs (c :: l)).extract 1 (bs (c :: l)).size = bs l := by rw [bs_extract, bs_size]; simp
  have hz : 1 ≤ (bs (c :: l)).size := by rw [bs_size]; simp
  have H := Lib.hid h
  clear hm1 h
  go_enter Tryz.func122, Tryz.ntmps122
  go_wp2
  go_region_with (first
    | (go_at_call 141; refine (escaped_c _).mono ?_; rintro e w' ⟨rfl, rfl⟩)
    | (go_at_call 49; refine (first_c b (c :: l) n _ _ (by first | exact H.out.rd.alloc _ | exact H.out.rd)).mono ?_; rintro e w' ⟨rfl, rfl⟩; unfold first))
  all_goals go_wp2
  all_goals go_ret
  all_goals exact ⟨rfl, R1.out.drew.next (R1.out.drew.rd.set0 _) (Fr.set' b 0 _ rfl), (((Fr.refl (· = b) w).alloc _).drew).trans (Fr.set' b 0 _ rfl)⟩
end Go.Proofs.YtakgcaehkphepaaGreatDoor
