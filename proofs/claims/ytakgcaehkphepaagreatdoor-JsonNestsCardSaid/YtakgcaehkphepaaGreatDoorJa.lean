/- Words for all walks of this seat: strings as lists of bytes; frames of worlds; the reader's block; Json trees in memory. -/
import Derived.Test.YtakgcaehkphepaaGreatDoorProg
import Derived.WalkKit
import Derived.WalkSpells
import Derived.WalkLawsBesides
import Derived.Lib.Hide
import Derived.Lib.Strings
namespace Go.Proofs.YtakgcaehkphepaaGreatDoor
open Go.RowKit
set_option linter.unusedVariables false
set_option linter.unusedSimpArgs false

/-! ### Strings -/
abbrev Bs := List UInt8
def bs (l : Bs) : ByteArray := ⟨l.toArray⟩
theorem bs_size (l : Bs) : (bs l).size = l.length := by simp [bs, ByteArray.size]
theorem bs_toList (l : Bs) : (bs l).toList = l := by rw [Go.Lib.toList_data]; simp [bs]
theorem bs_data (l : Bs) : (bs l).data.toList = l := by simp [bs]
theorem bs_of (s : ByteArray) : s = bs s.data.toList := by simp [bs]
theorem bs_extract (l : Bs) (a b : Nat) : (bs l).extract a b = bs ((l.take b).drop a) := by
  apply ByteArray.ext
  simp [bs, ByteArray.data_extract, List.drop_take]
theorem bs_inj {a b : Bs} (h : bs a = bs b) : a = b := by
  have := congrArg (fun s : ByteArray => s.data.toList) h
  simpa [bs] using this
theorem bs_get (l : Bs) (i : Nat) (h : i < (bs l).size) : (bs l)[i] = l[i]'(by rw [bs_size] at h; exact h) := rfl
theorem bs_lit (a : Array UInt8) : (⟨a⟩ : ByteArray) = bs a.toList := by simp [bs]
theorem bs_append (a b : Bs) : bs a ++ bs b = bs (a ++ b) := by
  apply ByteArray.ext
  simp [bs, ByteArray.data_append]

/-! ### Worlds -/
/-- The world w' is w with new blocks; of the old ones only those in m may have turned. -/
structure Fr (m : Nat → Prop) (w w' : World) : Prop where
  os : w'.os = w.os
  tape : w'.tape = w.tape
  output : w'.output = w.output
  size : w.heap.size ≤ w'.heap.size
  block : ∀ k, k < w.heap.size → ¬ m k → w'.heap[k]? = w.heap[k]?
abbrev none' : Nat → Prop := fun _ => False
theorem Fr.refl (m : Nat → Prop) (w : World) : Fr m w w := ⟨rfl, rfl, rfl, Nat.le_refl _, fun _ _ _ => rfl⟩
theorem Fr.trans {m : Nat → Prop} {a b c : World} (h : Fr m a b) (k : Fr m b c) : Fr m a c :=
  ⟨k.os.trans h.os, k.tape.trans h.tape, k.output.trans h.output, Nat.le_trans h.size k.size,
   fun i hi hm => (k.block i (Nat.lt_of_lt_of_le hi h.size) hm).trans (h.block i hi hm)⟩
/-- Behind a step that may turn other blocks, if those are new or in m. -/
theorem Fr.call {m m' : Nat → Prop} {a b c : World} (h : Fr m a b) (k : Fr m' b c) (hm : ∀ i, m' i → m i ∨ a.heap.size ≤ i) : Fr m a c :=
  ⟨k.os.trans h.os, k.tape.trans h.tape, k.output.trans h.output, Nat.le_trans h.size k.size,
   fun i hi hn => (k.block i (Nat.lt_of_lt_of_le hi h.size) (fun h' => (hm i h').elim hn (fun h'' => absurd hi (by omega)))).trans (h.block i hi hn)⟩
theorem Fr.mono {m m' : Nat → Prop} {a b : World} (h : Fr m a b) (hm : ∀ i, m i → m' i) : Fr m' a b :=
  ⟨h.os, h.tape, h.output, h.size, fun i hi hn => h.block i hi (fun x => hn (hm i x))⟩
theorem Fr.of_below {w w' : World} (h : Below w.heap.size w w') (m : Nat → Prop) : Fr m w w' :=
  ⟨h.os, h.tape, h.output, h.size, fun k hk _ => h.block k hk⟩
theorem Fr.below {w w' : World} (h : Fr none' w w') : Below w.heap.size w w' :=
  ⟨h.os, h.tape, h.output, h.size, fun k hk => h.block k hk id⟩
theorem Fr.alloc {m : Nat → Prop} {a w : World} (h : Fr m a w) (o : Obj) : Fr m a (w.alloc o) :=
  h.trans ⟨rfl, rfl, rfl, by simp, fun k hk _ => Below.heap_alloc _ _ _ hk⟩
theorem Fr.drew {m : Nat → Prop} {a w : World} (h : Fr m a w) : Fr m a w.drew :=
  h.trans ⟨rfl, rfl, rfl, Nat.le_refl _, fun _ _ _ => rfl⟩
theorem Fr.drewN {m : Nat → Prop} {a w : World} (h : Fr m a w) (n : Nat) : Fr m a (w.drewN n) :=
  h.trans ⟨rfl, rfl, rfl, Nat.le_refl _, fun _ _ _ => rfl⟩
theorem Fr.setCell {m : Nat → Prop} {a w : World} (h : Fr m a w) {p : Addr} (hp : m p.block ∨ a.heap.size ≤ p.block) (u : Value) : Fr m a (w.setCell p u) :=
  h.call (m' := fun k => k = p.block) ⟨rfl, rfl, rfl, by simp [World.setCell], fun k _ hn => Below.heap_setCell _ _ _ _ hn⟩ (fun i hi => hi ▸ hp)
theorem Fr.set' {m : Nat → Prop} {w : World} (b o : Nat) (u : Value) (hp : m b) : Fr m w (w.setCell ⟨b, o, none⟩ u) := (Fr.refl m w).setCell (p := ⟨b, o, none⟩) (.inl hp) u
theorem Fr.get {m : Nat → Prop} {w w' : World} (h : Fr m w w') {k : Nat} {o : Obj} (hk : w.heap[k]? = some o) (hm : ¬ m k) : w'.heap[k]? = some o :=
  (h.block k (Array.getElem?_eq_some_iff.1 hk).1 hm).trans hk
theorem Fr.cell {m : Nat → Prop} {w w' : World} (h : Fr m w w') {p : Addr} {v : Value} (hk : w.cell? p = some v) (hm : ¬ m p.block) : w'.cell? p = some v :=
  (World.cell?_of_block (w := w) (h.block p.block (World.block_lt_of_cell? w p hk) hm)).trans hk

theorem cell_of {w : World} {b : Nat} {c : Array Value} {e : TypeId} {f : Nat × Nat} (h : w.heap[b]? = some (.cells c e f)) (o : Nat) : w.cell? ⟨b, o, none⟩ = c[o]? := by
  simp [World.cell?, h]
theorem frozen_of {w : World} {b : Nat} {c : Array Value} {e : TypeId} (h : w.heap[b]? = some (.cells c e (0, 0))) (o : Nat) : w.frozen? ⟨b, o, none⟩ = false := by
  simp [World.frozen?, h]
theorem set_same {w : World} {b : Nat} {c : Array Value} {e : TypeId} {f : Nat × Nat} (h : w.heap[b]? = some (.cells c e f)) (o : Nat) (v : Value) :
    (w.setCell ⟨b, o, none⟩ v).heap[b]? = some (.cells (c.setIfInBounds o v) e f) := by
  simp [World.setCell, Array.getElem?_modify, h]
theorem set_other {w : World} {b : Nat} {x : Obj} (h : w.heap[b]? = some x) (p : Addr) (v : Value) (hne : b ≠ p.block) : (w.setCell p v).heap[b]? = some x :=
  (Below.heap_setCell w p v b hne).trans h
theorem alloc_new (w : World) (o : Obj) : (w.alloc o).heap[w.heap.size]? = some o := by
  show (w.heap.push o)[w.heap.size]? = _
  simp
theorem alloc_at {w : World} (o : Obj) {n : Nat} (h : n = w.heap.size) : (w.alloc o).heap[n]? = some o := h ▸ alloc_new w o
theorem alloc_old {w : World} {b : Nat} {x : Obj} (h : w.heap[b]? = some x) (o : Obj) : (w.alloc o).heap[b]? = some x :=
  (Below.heap_alloc w o b (Array.getElem?_eq_some_iff.1 h).1).trans h
theorem lt_of {w : World} {b : Nat} {x : Obj} (h : w.heap[b]? = some x) : b < w.heap.size := (Array.getElem?_eq_some_iff.1 h).1

/-! ### The reader (type 51): what is left of the text, the nesting, what is wrong -/
def Rd (w : World) (b : Nat) (s : Bs) (n : Int) (ev : Value) : Prop := w.heap[b]? = some (.cells #[.string (bs s), .int .i64 n, ev] 51 (0, 0))
theorem Rd.c0 {w : World} {b : Nat} {s : Bs} {n : Int} {ev : Value} (h : Rd w b s n ev) : w.cell? ⟨b, 0, none⟩ = some (.string (bs s)) := by rw [cell_of h]; rfl
theorem Rd.c1 {w : World} {b : Nat} {s : Bs} {n : Int} {ev : Value} (h : Rd w b s n ev) : w.cell? ⟨b, 1, none⟩ = some (.int .i64 n) := by rw [cell_of h]; rfl
theorem Rd.c2 {w : World} {b : Nat} {s : Bs} {n : Int} {ev : Value} (h : Rd w b s n ev) : w.cell? ⟨b, 2, none⟩ = some ev := by rw [cell_of h]; rfl
theorem Rd.fz {w : World} {b : Nat} {s : Bs} {n : Int} {ev : Value} (h : Rd w b s n ev) (o : Nat) : w.frozen? ⟨b, o, none⟩ = false := frozen_of h o
theorem Rd.lt {w : World} {b : Nat} {s : Bs} {n : Int} {ev : Value} (h : Rd w b s n ev) : b < w.heap.size := lt_of h
theorem Rd.set0 {w : World} {b : Nat} {s : Bs} {n : Int} {ev : Value} (h : Rd w b s n ev) (t : Bs) : Rd (w.setCell ⟨b, 0, none⟩ (.string (bs t))) b t n ev := set_same h 0 _
theorem Rd.set1 {w : World} {b : Nat} {s : Bs} {n : Int} {ev : Value} (h : Rd w b s n ev) (t : Int) : Rd (w.setCell ⟨b, 1, none⟩ (.int .i64 t)) b s t ev := set_same h 1 _
theorem Rd.set2 {w : World} {b : Nat} {s : Bs} {n : Int} {ev : Value} (h : Rd w b s n ev) (t : Value) : Rd (w.setCell ⟨b, 2, none⟩ t) b s n t := set_same h 2 _
theorem Rd.fr {m : Nat → Prop} {w w' : World} (f : Fr m w w') {b : Nat} {s : Bs} {n : Int} {ev : Value} (h : Rd w b s n ev) (hm : ¬ m b) : Rd w' b s n ev := f.get h hm
theorem Rd.alloc {w : World} {b : Nat} {s : Bs} {n : Int} {ev : Value} (h : Rd w b s n ev) (o : Obj) : Rd (w.alloc o) b s n ev := alloc_old h o
theorem Rd.drew {w : World} {b : Nat} {s : Bs} {n : Int} {ev : Value} (h : Rd w b s n ev) : Rd w.drew b s n ev := h
theorem Rd.other {w : World} {b : Nat} {s : Bs} {n : Int} {ev : Value} (h : Rd w b s n ev) (p : Addr) (v : Value) (hne : b ≠ p.block) : Rd (w.setCell p v) b s n ev := set_other h p v hne
end Go.Proofs.YtakgcaehkphepaaGreatDoor
