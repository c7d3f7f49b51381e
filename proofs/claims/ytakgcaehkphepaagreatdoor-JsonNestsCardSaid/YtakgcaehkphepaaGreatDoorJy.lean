/- Json trees in memory; (*json.reader).items' deferred closure. -/
import Derived.Test.YtakgcaehkphepaaGreatDoorJx
import Derived.Defers
namespace Go.Proofs.YtakgcaehkphepaaGreatDoor
open Go.RowKit
set_option linter.unusedVariables false
set_option linter.unusedSimpArgs false

/-- A Json value as a tree. -/
inductive J where
  | mk (kind : Int) (yes : Bool) (n : Int) (s : Bs) (keys : List Bs) (l : List J)
namespace J
def kind : J → Int | mk k _ _ _ _ _ => k
def yes : J → Bool | mk _ y _ _ _ _ => y
def n : J → Int | mk _ _ n _ _ _ => n
def s : J → Bs | mk _ _ _ s _ _ => s
def keys : J → List Bs | mk _ _ _ _ k _ => k
def l : J → List J | mk _ _ _ _ _ l => l
end J
def jCells (j : J) (kv lv : Value) : List Value := [.int .i64 j.kind, .bool j.yes, .int .i64 j.n, .string (bs j.s), kv, lv]
def jVal (j : J) (kv lv : Value) : Value := .agg #[.int .i64 j.kind, .bool j.yes, .int .i64 j.n, .string (bs j.s), kv, lv]

/-- A row whose block is let in by ok. -/
def Row (w : World) (ok : Nat → Prop) (e sz : Nat) (v : Value) (n : Nat) (xs : List Value) : Prop := w.ownsRow 0 e sz v n xs ∧ ∀ k, v.ownBlock = some k → ok k
theorem Row.mono {w : World} {ok ok' : Nat → Prop} {e sz : Nat} {v : Value} {n : Nat} {xs : List Value} (h : Row w ok e sz v n xs) (hm : ∀ k, ok k → k < w.heap.size → ok' k) : Row w ok' e sz v n xs :=
  ⟨h.1, fun k hk => hm k (h.2 k hk) (ownsRow_ge h.1 hk).2⟩
theorem Row.fr {w w' : World} {m ok : Nat → Prop} {e sz : Nat} {v : Value} {n : Nat} {xs : List Value} (h : Row w ok e sz v n xs) (f : Fr m w w') (hm : ∀ k, ok k → ¬ m k) : Row w' ok e sz v n xs :=
  ⟨ownsRow_fr h.1 f (fun k hk => hm k (h.2 k hk)), h.2⟩
theorem Row.nil (w : World) (ok : Nat → Prop) (e sz : Nat) : Row w ok e sz (.slice none 0 0) 0 [] := ⟨⟨by simp, .inl ⟨rfl, rfl⟩⟩, fun k hk => by cases hk⟩

mutual
/-- The tree j lies at the rows kv (its keys) and lv (its items), all of whose blocks ok lets in. -/
inductive JAt (w : World) (ok : Nat → Prop) : J → Value → Value → Prop
  | mk {kind : Int} {yes : Bool} {n : Int} {s : Bs} {keys : List Bs} {l : List J} {kv lv : Value} {cs : List Value} (hk : Row w ok 9 1 kv keys.length (strC keys)) (hl : Row w ok 26 6 lv l.length cs) (hs : JReps w ok l cs) : JAt w ok (.mk kind yes n s keys l) kv lv
inductive JReps (w : World) (ok : Nat → Prop) : List J → List Value → Prop
  | nil : JReps w ok [] []
  | cons {j : J} {kv lv : Value} {js : List J} {cs : List Value} (h : JAt w ok j kv lv) (hs : JReps w ok js cs) : JReps w ok (j :: js) (jCells j kv lv ++ cs)
end
mutual
theorem JAt.mono {w : World} {ok ok' : Nat → Prop} (hm : ∀ k, ok k → k < w.heap.size → ok' k) {j : J} {kv lv : Value} : JAt w ok j kv lv → JAt w ok' j kv lv
  | .mk hk hl hs => .mk (hk.mono hm) (hl.mono hm) (hs.mono hm)
theorem JReps.mono {w : World} {ok ok' : Nat → Prop} (hm : ∀ k, ok k → k < w.heap.size → ok' k) {l : List J} {cs : List Value} : JReps w ok l cs → JReps w ok' l cs
  | .nil => .nil
  | .cons h hs => .cons (h.mono hm) (hs.mono hm)
end
mutual
theorem JAt.fr {w w' : World} {m ok : Nat → Prop} (f : Fr m w w') (hm : ∀ k, ok k → ¬ m k) {j : J} {kv lv : Value} : JAt w ok j kv lv → JAt w' ok j kv lv
  | .mk hk hl hs => .mk (hk.fr f hm) (hl.fr f hm) (hs.fr f hm)
theorem JReps.fr {w w' : World} {m ok : Nat → Prop} (f : Fr m w w') (hm : ∀ k, ok k → ¬ m k) {l : List J} {cs : List Value} : JReps w ok l cs → JReps w' ok l cs
  | .nil => .nil
  | .cons h hs => .cons (h.fr f hm) (hs.fr f hm)
end
theorem JReps.length {w : World} {ok : Nat → Prop} : ∀ {l : List J} {cs : List Value}, JReps w ok l cs → cs.length = l.length * 6
  | _, _, .nil => rfl
  | _, _, .cons h hs => by have := hs.length; simp [jCells, this]; omega
theorem JReps.append {w : World} {ok : Nat → Prop} {j : J} {kv lv : Value} : ∀ {l : List J} {cs : List Value}, JReps w ok l cs → JAt w ok j kv lv → JReps w ok (l ++ [j]) (cs ++ jCells j kv lv)
  | _, _, .nil, h => by simpa using JReps.cons h .nil
  | _, _, .cons h hs, h' => by simpa using JReps.cons h (hs.append h')
theorem JAt.nil (w : World) (ok : Nat → Prop) (k : Int) (y : Bool) (n : Int) (s : Bs) : JAt w ok (.mk k y n s [] []) (.slice none 0 0) (.slice none 0 0) :=
  .mk (Row.nil w ok 9 1) (Row.nil w ok 26 6) .nil

/-- items$1, deferred: one nest less. -/
theorem nestLess (p : Value) (r bx : Nat) (s : Bs) (d : Int) (o : Option Int) (u : FrameMode) (w : World) (h : RS p w r s (d + 1) o) (hd : 0 ≤ d) (hd' : d ≤ 100) (hx : w.heap[bx]? = some (.cells #[.pointer (some ⟨r, 0, none⟩)] 45 (0, 0))) :
    CallsD Tryz.prog 98 #[.pointer (some ⟨bx, 0, none⟩)] u w fun e u' w' => u' = u ∧ e = .returned (.tuple #[]) ∧ RS p w' r s d o ∧ Fr (· = r) w w' := by
  have cb : w.cell? ⟨bx, 0, none⟩ = some (.pointer (some ⟨r, 0, none⟩)) := cell_of hx 0
  have c1 := h.rd.c1
  have z1 := h.rd.fz 1
  have H := Lib.hid h
  clear h
  go_enter_d Tryz.func98, Tryz.ntmps98
  go_wp2
  go_end0
  exact ⟨rfl, H.out.next (H.out.rd.set1 d) (Fr.set' r 1 _ rfl), Fr.set' r 1 _ rfl⟩
end Go.Proofs.YtakgcaehkphepaaGreatDoor
