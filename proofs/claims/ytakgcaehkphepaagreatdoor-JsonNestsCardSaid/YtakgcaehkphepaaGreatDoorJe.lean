/- What the package-level variables hold; the reader's state; blanks. -/
import Derived.Test.YtakgcaehkphepaaGreatDoorJd
import Derived.Test.YtakgcaehkphepaaGreatDoorSh
namespace Go.Proofs.YtakgcaehkphepaaGreatDoor
open Go.RowKit
set_option linter.unusedVariables false
set_option linter.unusedSimpArgs false

/-- What the package-level variables hold (p: where json.errJson's text lies). -/
structure Gl (p : Value) (w : World) : Prop where
  et : EtAt w
  ej : w.cell? ⟨0, 0, none⟩ = some (.iface 195 p)
  u8 : Lib.Utf8Tabs 1 2 w
  pow : Lib.TabIs Tryz.prog w "internal/strconv.uint64pow10" .u64 Lib.pow10Tab
  sy : ∃ t q, w.cell? ⟨5, 0, none⟩ = some (.iface t q)
  rg : ∃ t q, w.cell? ⟨6, 0, none⟩ = some (.iface t q)
  db : w.heap[9]? ≠ none
theorem Ja.powG : Tryz.prog.globalNamed "internal/strconv.uint64pow10" = some 4 := by kernel_rfl
theorem Gl.size {p : Value} {w : World} (h : Gl p w) : 10 ≤ w.heap.size := by
  have := h.db
  rw [ne_eq, Array.getElem?_eq_none_iff] at this
  omega
theorem Gl.fr {p : Value} {w w' : World} (h : Gl p w) {m : Nat → Prop} (f : Fr m w w') (hm : ∀ k, k < 10 → ¬ m k) : Gl p w' where
  et := f.cell h.et (hm 3 (by omega))
  ej := f.cell h.ej (hm 0 (by omega))
  u8 := ⟨fun c hc => f.cell (h.u8.1 c hc) (hm 1 (by omega)), fun i hi => ⟨f.cell (h.u8.2 i hi).1 (hm 2 (by omega)), f.cell (h.u8.2 i hi).2 (hm 2 (by omega))⟩⟩
  pow := by
    have hs := h.size
    have := h.pow
    unfold Lib.TabIs World.var? at this ⊢
    rw [Ja.powG] at this ⊢
    simp only [Option.bind_some] at this ⊢
    rw [f.block 4 (by omega) (hm 4 (by omega))]
    exact this
  sy := by obtain ⟨t, q, e⟩ := h.sy; exact ⟨t, q, f.cell e (hm 5 (by omega))⟩
  rg := by obtain ⟨t, q, e⟩ := h.rg; exact ⟨t, q, f.cell e (hm 6 (by omega))⟩
  db := by
    have hs := h.size
    rw [f.block 9 (by omega) (hm 9 (by omega))]; exact h.db
theorem Gl.fr0 {p : Value} {w w' : World} (h : Gl p w) (f : Fr none' w w') : Gl p w' := h.fr f (fun _ _ => id)
theorem Gl.frb {p : Value} {w w' : World} (h : Gl p w) {b : Nat} (hb : 10 ≤ b) (f : Fr (· = b) w w') : Gl p w' := h.fr f (fun k hk e => by omega)

/-- The reader's state: what is left, how deep, what is wrong. -/
structure RS (p : Value) (w : World) (b : Nat) (s : Bs) (n : Int) (o : Option Int) : Prop where
  gl : Gl p w
  rd : Rd w b s n (errV p o)
  lo : 10 ≤ b
theorem RS.fr {p : Value} {w w' : World} {b : Nat} {s : Bs} {n : Int} {o : Option Int} (h : RS p w b s n o) {m : Nat → Prop} (f : Fr m w w') (hm : ∀ k, m k → w.heap.size ≤ k) : RS p w' b s n o :=
  ⟨h.gl.fr f (fun k hk e => by have := hm k e; have := h.gl.size; omega), h.rd.fr f (fun e => by have := hm b e; have := h.rd.lt; omega), h.lo⟩
theorem RS.fr0 {p : Value} {w w' : World} {b : Nat} {s : Bs} {n : Int} {o : Option Int} (h : RS p w b s n o) (f : Fr none' w w') : RS p w' b s n o := h.fr f (fun _ e => e.elim)
theorem RS.next {p : Value} {w w' : World} {b : Nat} {s s' : Bs} {n n' : Int} {o o' : Option Int} (h : RS p w b s n o) (r : Rd w' b s' n' (errV p o')) (f : Fr (· = b) w w') : RS p w' b s' n' o' :=
  ⟨h.gl.frb h.lo f, r, h.lo⟩
theorem RS.drew {p : Value} {w : World} {b : Nat} {s : Bs} {n : Int} {o : Option Int} (h : RS p w b s n o) : RS p w.drew b s n o := h.fr0 ((Fr.refl _ _).drew)
theorem RS.alloc {p : Value} {w : World} {b : Nat} {s : Bs} {n : Int} {o : Option Int} (h : RS p w b s n o) (x : Obj) : RS p (w.alloc x) b s n o := h.fr0 ((Fr.refl _ _).alloc x)

theorem take_r (p : Value) (b : Nat) (s t : Bs) (n : Int) (o : Option Int) (w : World) (h : RS p w b s n o) :
    Calls Tryz.prog 78 #[.pointer (some ⟨b, 0, none⟩), .string (bs t)] w fun e w' => e = .returned (.bool (t.isPrefixOf s)) ∧ RS p w' b (cutPre s t) n o ∧ Fr (· = b) w w' :=
  (take_c b s t n _ w h.rd).mono fun e w' ⟨he, hr, hf⟩ => ⟨he, h.next hr hf, hf⟩
theorem fail_r (p : Value) (b : Nat) (s : Bs) (n y : Int) (o : Option Int) (w : World) (h : RS p w b s n o) :
    Calls Tryz.prog 29 #[.pointer (some ⟨b, 0, none⟩), .int .i64 y] w fun e w' => e = .returned (.tuple #[]) ∧ RS p w' b s n (failE o y) ∧ Fr (· = b) w w' :=
  (fail_c b s n y o p w h.gl.ej h.rd).mono fun e w' ⟨he, hr, hf⟩ => ⟨he, h.next hr hf, hf⟩

/-! ### Blanks -/
def isBlank (c : UInt8) : Bool := c == 32 || c == 9 || c == 10 || c == 13
def skipB (s : Bs) : Bs := s.dropWhile isBlank
theorem trimBlank (s : Bs) : Lib.trimLeftS s [32, 9, 10, 13] = skipB s := by
  unfold Lib.trimLeftS skipB
  congr 1
  funext c
  simp only [isBlank, List.contains, List.elem]
  cases c == 32 <;> cases c == 9 <;> cases c == 10 <;> cases c == 13 <;> rfl
set_option maxHeartbeats 400000 in
theorem skip_r (p : Value) (b : Nat) (s : Bs) (n : Int) (o : Option Int) (w : World) (h : RS p w b s n o) :
    Calls Tryz.prog 27 #[.pointer (some ⟨b, 0, none⟩)] w fun e w' => e = .returned (.tuple #[]) ∧ RS p w' b (skipB s) n o ∧ Fr (· = b) w w' := by
  have h0 := h.rd.c0
  have H := Lib.hid h
  clear h
  go_enter Tryz.func27, Tryz.ntmps27
  go_wp2_with (go_at_call 45; refine (Tryz.strings_TrimLeft (bs s) ⟨#[32, 9, 10, 13]⟩ _ (by decide) (by intro j b hb; have := List.mem_of_getElem? hb; simp at this; rcases this with rfl | rfl | rfl | rfl <;> decide)).mono ?_; rintro e w1 ⟨rfl, hb1⟩; have F1 := Lib.hid (Fr.of_below hb1 none'); have R1 := Lib.hid (H.out.fr0 F1.out); clear hb1; have f0 := R1.out.rd.fz 0; have c0 := R1.out.rd.c0)
  go_end0
  rw [bs_data, trimBlank]
  exact ⟨rfl, R1.out.next (R1.out.rd.set0 _) (Fr.set' b 0 _ rfl), (F1.out.mono (fun _ h => h.elim)).trans (Fr.set' b 0 _ rfl)⟩
end Go.Proofs.YtakgcaehkphepaaGreatDoor
