/- (*json.reader).items. -/
import Derived.Test.YtakgcaehkphepaaGreatDoorJy
import Derived.Deep.DeepCutAuto
import Derived.Deep.AppendLies
import Derived.Deep.RegionHeld3
namespace Go.Proofs.YtakgcaehkphepaaGreatDoor
open Go.RowKit
set_option linter.unusedVariables false
set_option linter.unusedSimpArgs false

def emptyJ (kind : Int) (ks : List Bs) (l : List J) : J := .mk kind false 0 [] ks l
/-- One round's key. -/
def roundK (kind : Int) (s : Bs) (ks : List Bs) : List Bs × Bs × Option Int := if kind = 5 then keyM (skipB s) none ks else (ks, skipB s, none)
/-- One round's item. -/
def roundV (val : Bs → J × Bs × Option Int) (s : Bs) (o : Option Int) (l : List J) : List J × Bs × Option Int :=
  match o with
  | none => (l ++ [(val s).1], (val s).2.1, (val s).2.2)
  | some y => (l, s, some y)
/-- The loop over a list's, an object's items. -/
def itemsLoop (val : Bs → J × Bs × Option Int) (kind : Int) (cl : UInt8) : Nat → Bs → Option Int → List Bs → List J → J × Bs × Option Int
  | 0, s, o, ks, l => (emptyJ kind ks l, s, o)
  | g + 1, s, o, ks, l =>
    match o with
    | some y => (emptyJ kind ks l, s, some y)
    | none =>
      match roundV val (roundK kind s ks).2.1 (roundK kind s ks).2.2 l with
      | (l', s', some y) => (emptyJ kind (roundK kind s ks).1 l', skipB s', some y)
      | (l', s', none) =>
        if [cl].isPrefixOf (skipB s') then (emptyJ kind (roundK kind s ks).1 l', (skipB s').drop 1, none)
        else if [44].isPrefixOf (skipB s') then itemsLoop val kind cl g ((skipB s').drop 1) none (roundK kind s ks).1 l'
        else (emptyJ kind (roundK kind s ks).1 l', skipB s', failE none 150)

theorem skipB_len (s : Bs) : (skipB s).length ≤ s.length := (List.dropWhile_suffix _).length_le
theorem keyM_len (s : Bs) (o : Option Int) (ks : List Bs) : (keyM s o ks).2.1.length ≤ s.length ∧ (keyM s o ks).1.length + (keyM s o ks).2.1.length ≤ ks.length + s.length := by
  unfold keyM
  split
  · rename_i hp
    have h0 := pre_pos hp
    have h1 := runesM_len ((s.drop 1).length + 1) (s.drop 1) o []
    rw [show runesM ((s.drop 1).length + 1) (s.drop 1) o [] = wordM (s.drop 1) o from rfl] at h1
    rw [List.length_nil, List.length_drop] at h1
    have h2 := skipB_len (wordM (s.drop 1) o).2.1
    have h3 := skipB_len (skipB (wordM (s.drop 1) o).2.1)
    have h4 := skipB_len ((skipB (wordM (s.drop 1) o).2.1).drop 1)
    rw [List.length_drop] at h4
    split
    · simp only [List.length_append, List.length_singleton]; omega
    · simp only [List.length_append, List.length_singleton]; omega
  · exact ⟨Nat.le_refl _, Nat.le_refl _⟩

theorem roundK_len (kind : Int) (s : Bs) (ks : List Bs) : (roundK kind s ks).2.1.length ≤ s.length ∧ (roundK kind s ks).1.length + (roundK kind s ks).2.1.length ≤ ks.length + s.length := by
  have h := skipB_len s
  unfold roundK
  split
  · have := keyM_len (skipB s) none ks; omega
  · exact ⟨h, by show ks.length + (skipB s).length ≤ _; omega⟩
/-- Rows of two element types lie in two blocks. -/
theorem own_ne {w : World} {B B' e e' sz sz' n n' : Nat} {v v' : Value} {xs xs' : List Value} (h : w.ownsRow B e sz v n xs) (h' : w.ownsRow B' e' sz' v' n' xs') (hne : e ≠ e') {k : Nat} (hk : v.ownBlock = some k) : v'.ownBlock ≠ some k := by
  intro hk'
  rcases h.2 with ⟨rfl, _⟩ | ⟨g, cap, cur, rfl, _, hg, _⟩
  · cases hk
  · rcases h'.2 with ⟨rfl, _⟩ | ⟨g', cap', cur', rfl, _, hg', _⟩
    · cases hk'
    · injection hk with hk
      injection hk' with hk'
      simp only at hk hk'
      subst hk
      subst hk'
      rw [hg] at hg'
      injection hg' with hg'
      injection hg' with _ hg'
      exact hne hg'

theorem own_cell {w : World} {B e sz n g cap : Nat} {xs : List Value} (h : w.ownsRow B e sz (.slice (some ⟨g, 0, none⟩) n cap) n xs) {i : Nat} {u : Value} (hi : xs[i]? = some u) : w.cell? ⟨g, i, none⟩ = some u ∧ w.frozen? ⟨g, i, none⟩ = false := by
  rcases h.2 with ⟨hv, _⟩ | ⟨g', cap', cur, hv, _, hg, hn, _, hs, ht⟩
  · cases hv
  · injection hv with hv _ _
    injection hv with hv
    injection hv with hv
    subst hv
    refine ⟨?_, frozen_of hg i⟩
    rw [cell_of hg i]
    have hl : i < n * sz := by
      have := (List.getElem?_eq_some_iff.1 hi).1
      rw [h.1] at this
      exact this
    rw [← ht, List.getElem?_take_of_lt hl] at hi
    simpa using hi
theorem JAt.form {w : World} {ok : Nat → Prop} {j : J} {kv lv : Value} (h : JAt w ok j kv lv) : ∃ A n c A' n' c', kv = .slice A n c ∧ lv = .slice A' n' c' := by
  cases h with
  | mk hk hl hs =>
    obtain ⟨A, c, e⟩ := own_form hk.1
    obtain ⟨A', c', e'⟩ := own_form hl.1
    exact ⟨_, _, _, _, _, _, e, e'⟩
theorem cs_ne {w : World} {p a : Addr} {u v : Value} (hne : p.block ≠ a.block) (h : w.cell? a = some v) : (w.setCell p u).cell? a = some v :=
  (Fr.setCell (m := fun k => k = p.block) (Fr.refl _ w) (p := p) (.inl rfl) u).cell h (fun e => hne e.symm)
theorem cell_al {w : World} {a : Addr} {v : Value} {o : Obj} (h : w.cell? a = some v) : (w.alloc o).cell? a = some v := ((Fr.refl none' w).alloc o).cell h id
theorem cell_dr {w : World} {a : Addr} {v : Value} (h : w.cell? a = some v) : w.drew.cell? a = some v := h
/-- What holds between two rounds of items. -/
structure IS (p : Value) (r bx b6 b B : Nat) (kind : Int) (w : World) (s : Bs) (d : Int) (o : Option Int) (ks : List Bs) (l : List J) (kv lv : Value) (cs : List Value) : Prop where
  rs : RS p w r s d o
  bx : w.heap[bx]? = some (.cells #[.pointer (some ⟨r, 0, none⟩)] 45 (0, 0))
  b6 : B26 w b6 (.int .i64 0) (.bool false) (.int .i64 0) (.string ⟨#[]⟩) (.slice none 0 0) (.slice none 0 0)
  b : B26 w b (.int .i64 kind) (.bool false) (.int .i64 0) (.string ⟨#[]⟩) kv lv
  kr : w.ownsRow B 9 1 kv ks.length (strC ks)
  lr : w.ownsRow B 26 6 lv l.length cs
  c : JReps w (fun k => B ≤ k ∧ kv.ownBlock ≠ some k ∧ lv.ownBlock ≠ some k) l cs
  sz : B ≤ w.heap.size
/-- The blocks' order. -/
structure IOrd (r bx b6 b B : Nat) : Prop where
  h1 : r < bx
  h2 : bx < b6
  h3 : b6 < b
  h4 : b < B
section
variable {p : Value} {r bx b6 b B : Nat} {kind : Int} {w : World} {s : Bs} {d : Int} {o : Option Int} {ks : List Bs} {l : List J} {kv lv : Value} {cs : List Value}
theorem IS.cb (h : IS p r bx b6 b B kind w s d o ks l kv lv cs) : w.cell? ⟨bx, 0, none⟩ = some (.pointer (some ⟨r, 0, none⟩)) := cell_of h.bx 0
/-- Behind a step that turns the reader alone. -/
theorem IS.read (h : IS p r bx b6 b B kind w s d o ks l kv lv cs) (hO : IOrd r bx b6 b B) {w' : World} {s' : Bs} {d' : Int} {o' : Option Int} (hr : RS p w' r s' d' o') (f : Fr (· = r) w w') : IS p r bx b6 b B kind w' s' d' o' ks l kv lv cs where
  rs := hr
  bx := f.get h.bx (by have := hO.h1; omega)
  b6 := h.b6.fr f (by have := hO.h1; have := hO.h2; omega)
  b := h.b.fr f (by have := hO.h1; have := hO.h2; have := hO.h3; omega)
  kr := ownsRow_fr h.kr f (fun k hk e => by have := (ownsRow_ge h.kr hk).1; have := hO.h1; have := hO.h2; have := hO.h3; have := hO.h4; omega)
  lr := ownsRow_fr h.lr f (fun k hk e => by have := (ownsRow_ge h.lr hk).1; have := hO.h1; have := hO.h2; have := hO.h3; have := hO.h4; omega)
  c := h.c.fr f (fun k hk e => by have := hk.1; have := hO.h1; have := hO.h2; have := hO.h3; have := hO.h4; omega)
  sz := Nat.le_trans h.sz f.size
/-- Behind a step that makes new blocks alone. -/
theorem IS.fr0 (h : IS p r bx b6 b B kind w s d o ks l kv lv cs) {w' : World} (f : Fr none' w w') : IS p r bx b6 b B kind w' s d o ks l kv lv cs where
  rs := h.rs.fr0 f
  bx := f.get h.bx id
  b6 := h.b6.fr f id
  b := h.b.fr f id
  kr := ownsRow_fr h.kr f (fun _ _ => id)
  lr := ownsRow_fr h.lr f (fun _ _ => id)
  c := h.c.fr f (fun _ _ => id)
  sz := Nat.le_trans h.sz f.size
/-- Behind a key. -/
theorem IS.key (h : IS p r bx b6 b B kind w s d o ks l kv lv cs) (hO : IOrd r bx b6 b B) {w' : World} {s' : Bs} {o' : Option Int} {ks' : List Bs} {kv' : Value} (hb : B26 w' b (.int .i64 kind) (.bool false) (.int .i64 0) (.string ⟨#[]⟩) kv' lv)
    (hk : w'.ownsRow B 9 1 kv' ks'.length (strC ks')) (hr : RS p w' r s' d o') (f : Fr (fun k => k = r ∨ k = b ∨ kv.ownBlock = some k) w w') (hat : ∀ k, kv'.ownBlock = some k → kv.ownBlock = some k ∨ w.heap.size ≤ k) :
    IS p r bx b6 b B kind w' s' d o' ks' l kv' lv cs where
  rs := hr
  bx := f.get h.bx (by
    have := hO.h1; have := hO.h2; have := hO.h3; have := hO.h4
    rintro (e | e | e)
    · omega
    · omega
    · have := (ownsRow_ge h.kr e).1; omega)
  b6 := h.b6.fr f (by
    have := hO.h1; have := hO.h2; have := hO.h3; have := hO.h4
    rintro (e | e | e)
    · omega
    · omega
    · have := (ownsRow_ge h.kr e).1; omega)
  b := hb
  kr := hk
  lr := ownsRow_fr h.lr f (fun k hk => by
    have := (ownsRow_ge h.lr hk).1; have := hO.h1; have := hO.h2; have := hO.h3; have := hO.h4
    rintro (e | e | e)
    · omega
    · omega
    · exact own_ne h.kr h.lr (by decide) e hk)
  c := ((h.c.mono (ok' := fun k => B ≤ k ∧ kv.ownBlock ≠ some k ∧ kv'.ownBlock ≠ some k ∧ lv.ownBlock ≠ some k) (fun k hk hlt => ⟨hk.1, hk.2.1, fun e => (hat k e).elim (fun e => hk.2.1 e) (fun e => by omega), hk.2.2⟩)).fr f (fun k hk => by
    have := hk.1; have := hO.h1; have := hO.h2; have := hO.h3; have := hO.h4
    rintro (e | e | e)
    · omega
    · omega
    · exact hk.2.1 e)).mono (fun k hk _ => ⟨hk.1, hk.2.2.1, hk.2.2.2⟩)
  sz := Nat.le_trans h.sz f.size
theorem IS.tree (h : IS p r bx b6 b B kind w s d o ks l kv lv cs) : JAt w (fun k => B ≤ k) (emptyJ kind ks l) kv lv :=
  .mk ⟨ownsRow_base h.kr (Nat.zero_le _), fun k hk => (ownsRow_ge h.kr hk).1⟩ ⟨ownsRow_base h.lr (Nat.zero_le _), fun k hk => (ownsRow_ge h.lr hk).1⟩ (h.c.mono (fun k hk _ => hk.1))
end
theorem Jz.info26 : (Tryz.prog.info? 26).map (fun i => (i.zero, i.size, i.bytes)) = some (some (.agg #[.int .i64 0, .bool false, .int .i64 0, .string ⟨#[]⟩, .slice none 0 0, .slice none 0 0]), 6, 88) := by kernel_rfl

/-! ### One item more -/
theorem own_set {w : World} {B e sz n g cap : Nat} {xs : List Value} (h : w.ownsRow B e sz (.slice (some ⟨g, 0, none⟩) n cap) n xs) (i : Nat) (u : Value) : (w.setCell ⟨g, i, none⟩ u).ownsRow B e sz (.slice (some ⟨g, 0, none⟩) n cap) n (xs.set i u) := by
  refine ⟨by rw [List.length_set]; exact h.1, .inr ?_⟩
  rcases h.2 with ⟨hv, _⟩ | ⟨g', cap', cur, hv, hB, hg, hn, hc, hs, ht⟩
  · cases hv
  · injection hv with hv _ hcc
    injection hv with hv
    injection hv with hv
    subst hv
    subst hcc
    refine ⟨g, cap, cur.setIfInBounds i u, rfl, hB, set_same hg i u, hn, hc, by simp [hs], ?_⟩
    rw [Array.toList_setIfInBounds, List.take_set, ht]
theorem set_app {cs zs : List Value} {n k : Nat} {u : Value} (hcs : cs.length = n) : (cs ++ zs).set (n + k) u = cs ++ zs.set k u := by
  rw [List.set_append_right _ _ (by omega), hcs, Nat.add_sub_cancel_left]
theorem own_put6 {w : World} {B e n g cap m : Nat} {cs : List Value} {z0 z1 z2 z3 z4 z5 : Value} (h : w.ownsRow B e 6 (.slice (some ⟨g, 0, none⟩) n cap) n (cs ++ [z0, z1, z2, z3, z4, z5])) (hcs : cs.length = m) (v0 v1 v2 v3 v4 v5 : Value) :
    ((((((w.setCell ⟨g, m, none⟩ v0).setCell ⟨g, m + 1, none⟩ v1).setCell ⟨g, m + 2, none⟩ v2).setCell ⟨g, m + 3, none⟩ v3).setCell ⟨g, m + 4, none⟩ v4).setCell ⟨g, m + 5, none⟩ v5).ownsRow B e 6 (.slice (some ⟨g, 0, none⟩) n cap) n (cs ++ [v0, v1, v2, v3, v4, v5]) := by
  have h0 := own_set h m v0
  rw [show m = m + 0 from rfl, set_app hcs] at h0
  have h1 := own_set h0 (m + 1) v1
  rw [set_app hcs] at h1
  have h2 := own_set h1 (m + 2) v2
  rw [set_app hcs] at h2
  have h3 := own_set h2 (m + 3) v3
  rw [set_app hcs] at h3
  have h4 := own_set h3 (m + 4) v4
  rw [set_app hcs] at h4
  have h5 := own_set h4 (m + 5) v5
  rw [set_app hcs] at h5
  exact h5
theorem fr_put6 {mm : Nat → Prop} {w : World} {g m : Nat} (hm : mm g) (v0 v1 v2 v3 v4 v5 : Value) : Fr mm w ((((((w.setCell ⟨g, m, none⟩ v0).setCell ⟨g, m + 1, none⟩ v1).setCell ⟨g, m + 2, none⟩ v2).setCell ⟨g, m + 3, none⟩ v3).setCell ⟨g, m + 4, none⟩ v4).setCell ⟨g, m + 5, none⟩ v5) :=
  (((((Fr.set' g m v0 hm).trans (Fr.set' g (m + 1) v1 hm)).trans (Fr.set' g (m + 2) v2 hm)).trans (Fr.set' g (m + 3) v3 hm)).trans (Fr.set' g (m + 4) v4 hm)).trans (Fr.set' g (m + 5) v5 hm)
theorem IS.push {p : Value} {r bx b6 b B : Nat} {kind : Int} {w : World} {s : Bs} {d : Int} {o : Option Int} {ks : List Bs} {l : List J} {kv lv : Value} {cs : List Value} (h : IS p r bx b6 b B kind w s d o ks l kv lv cs) (hO : IOrd r bx b6 b B)
    {j : J} {kvj lvj : Value} {z : Nat} (hz : B ≤ z) (hzk : ∀ k, kv.ownBlock = some k → k < z) (hzl : ∀ k, lv.ownBlock = some k → k < z) (hj : JAt w (fun k => z ≤ k) j kvj lvj) {w5 w' : World} (f5 : Fr (fun k => some k = lv.ownBlock) w w5) {g cap : Nat} (hg : lv.ownBlock = some g ∨ w.heap.size ≤ g)
    (f : Fr (fun k => k = g ∨ k = b) w5 w') (hb : B26 w' b (.int .i64 kind) (.bool false) (.int .i64 0) (.string ⟨#[]⟩) kv (.slice (some ⟨g, 0, none⟩) (l.length + 1) cap)) (hl : w'.ownsRow B 26 6 (.slice (some ⟨g, 0, none⟩) (l.length + 1) cap) (l.length + 1) (cs ++ jCells j kvj lvj)) (hgB : B ≤ g) :
    IS p r bx b6 b B kind w' s d o ks (l ++ [j]) kv (.slice (some ⟨g, 0, none⟩) (l.length + 1) cap) (cs ++ jCells j kvj lvj) ∧ Fr (fun k => B ≤ k ∨ k = b) w w' := by
  have o1 := hO.h1
  have o2 := hO.h2
  have o3 := hO.h3
  have o4 := hO.h4
  have F : Fr (fun k => some k = lv.ownBlock ∨ k = g ∨ k = b) w w' := (f5.mono (fun i e => .inl e)).trans (f.mono (fun i e => .inr e))
  have hgl : ∀ k, some k = lv.ownBlock → B ≤ k ∧ k < z := fun k e => ⟨(ownsRow_ge h.lr e.symm).1, hzl k e.symm⟩
  have hlow : ∀ k, k < B → k ≠ b → ¬ (some k = lv.ownBlock ∨ k = g ∨ k = b) := fun k hk hkb => by
    rintro (e | e | e)
    · have := (hgl k e).1; omega
    · omega
    · exact hkb e
  have hkg : ∀ k, kv.ownBlock = some k → ¬ (some k = lv.ownBlock ∨ k = g ∨ k = b) := fun k hk => by
    have hk1 := ownsRow_ge h.kr hk
    have hne := own_ne h.kr h.lr (by decide) hk
    rintro (e | e | e)
    · exact hne e.symm
    · rcases hg with hg | hg
      · exact hne (e ▸ hg)
      · omega
    · omega
  have hch : ∀ k, (B ≤ k ∧ kv.ownBlock ≠ some k ∧ lv.ownBlock ≠ some k) ∧ k < w.heap.size → ¬ (some k = lv.ownBlock ∨ k = g ∨ k = b) := fun k hk => by
    rintro (e | e | e)
    · exact hk.1.2.2 e.symm
    · rcases hg with hg | hg
      · exact hk.1.2.2 (e ▸ hg)
      · omega
    · omega
  have hj' : JAt w (fun k => (B ≤ k ∧ kv.ownBlock ≠ some k ∧ lv.ownBlock ≠ some k) ∧ k < w.heap.size) j kvj lvj := hj.mono (fun k hk hlt => ⟨⟨by omega, fun e => by have := hzk k e; omega, fun e => by have := hzl k e; omega⟩, hlt⟩)
  have hc' : JReps w (fun k => (B ≤ k ∧ kv.ownBlock ≠ some k ∧ lv.ownBlock ≠ some k) ∧ k < w.heap.size) l cs := h.c.mono (fun k hk hlt => ⟨hk, hlt⟩)
  refine ⟨{ rs := ⟨h.rs.gl.fr F (fun k hk => by have := h.rs.lo; exact hlow k (by omega) (by omega)), h.rs.rd.fr F (hlow r (by omega) (by omega)), h.rs.lo⟩, bx := F.get h.bx (hlow bx (by omega) (by omega)), b6 := h.b6.fr F (hlow b6 (by omega) (by omega)), b := hb, kr := ownsRow_fr h.kr F hkg, lr := by rw [List.length_append]; exact hl, c := ?_, sz := Nat.le_trans h.sz F.size }, ?_⟩
  · refine ((hc'.append hj').fr F hch).mono (fun k hk _ => ⟨hk.1.1, hk.1.2.1, fun e => ?_⟩)
    have e' : k = g := by injection e with e; exact e.symm
    exact hch k hk (.inr (.inl e'))
  · exact F.mono (fun k hk => by
      rcases hk with e | e | e
      · exact .inl (hgl k e).1
      · exact .inl (by omega)
      · exact .inr e)
end Go.Proofs.YtakgcaehkphepaaGreatDoor
