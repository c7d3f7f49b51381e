/- A region that draws its order, by what holds between its operations: one step for each operation, whatever was done before it. -/
import Derived.Test.YtakgcaehkphepaaGreatDoorJz
namespace Go.Proofs.YtakgcaehkphepaaGreatDoor
open Go.RowKit
set_option linter.unusedVariables false
set_option linter.unusedSimpArgs false

/-- Which operations an operation waits for. -/
def depsOf (o : Oper) : List Nat := (o.after.toList.filter (Region.binds .any ·)).map (·.on)
/-- One step for each operation. -/
def StepsI (P : Program) (ops : Array Oper) (Q : Exit → Act → World → Prop) (Inv : (Nat → Bool) → Act → World → Prop) : List Oper → List (List Nat) → Nat → Prop
  | o :: r, d :: ds, i => (∀ (done : Nat → Bool) (a : Act) (w : World), done i = false → (∀ k ∈ d, done k = true) → Inv done a w → ∀ K : Act → World → Prop, (∀ a w, Inv (fun k => k == i || done k) a w → K a w) →
      if Region.wanted o (yielded ops a.tmps) = true then Oper.wp P o a w K Q else K (a.put o.dst undef) w) ∧ StepsI P ops Q Inv r ds (i + 1)
  | _, _, _ => True

section
variable {P : Program} {ops : Array Oper} {Q : Exit → Act → World → Prop} {Inv : (Nat → Bool) → Act → World → Prop}
theorem StepsI.get : ∀ (l : List Oper) (ds : List (List Nat)) (i : Nat), l.map depsOf = ds → StepsI P ops Q Inv l ds i → ∀ (j : Nat) (o : Oper), l[j]? = some o →
    ∀ (done : Nat → Bool) (a : Act) (w : World), done (i + j) = false → (∀ k ∈ depsOf o, done k = true) → Inv done a w → ∀ K : Act → World → Prop, (∀ a w, Inv (fun k => k == i + j || done k) a w → K a w) →
      if Region.wanted o (yielded ops a.tmps) = true then Oper.wp P o a w K Q else K (a.put o.dst undef) w
  | [], ds, i, h, hs, j, o, ho => by simp at ho
  | x :: r, [], i, h, hs, j, o, ho => by cases h
  | x :: r, d :: ds, i, h, hs, j, o, ho => by
    rw [List.map_cons] at h
    injection h with h1 h2
    cases j with
    | zero =>
      simp only [List.getElem?_cons_zero, Option.some.injEq] at ho
      subst ho
      subst h1
      exact hs.1
    | succ j =>
      simp only [List.getElem?_cons_succ] at ho
      have := StepsI.get r ds (i + 1) h2 hs.2 j o ho
      rw [show i + 1 + j = i + (j + 1) by omega] at this
      exact this

def undone (listed : Array Bool) : Nat := listed.toList.count false
theorem count_set : ∀ (l : List Bool) (i : Nat), l[i]? = some false → (l.set i true).count false + 1 = l.count false
  | [], i, h => by simp at h
  | b :: r, 0, h => by simp at h; subst h; simp
  | b :: r, i + 1, h => by
    simp at h
    have := count_set r i h
    rw [List.set_cons_succ, List.count_cons, List.count_cons]
    omega
theorem undone_set {listed : Array Bool} {i : Nat} (h : listed[i]? = some false) : undone (listed.setIfInBounds i true) + 1 = undone listed := by
  unfold undone
  rw [Array.toList_setIfInBounds]
  exact count_set _ _ (by simpa using h)
theorem getD_set {listed : Array Bool} {i : Nat} (hi : i < listed.size) (k : Nat) : (listed.setIfInBounds i true).getD k false = (k == i || listed.getD k false) := by
  by_cases h : k = i
  · subst h; simp [Array.getD, hi]
  · have h' : ¬ i = k := fun e => h e.symm
    simp [Array.getD_eq_getD_getElem?, Array.getElem?_setIfInBounds, h, h']
theorem ready_nil (hdag : ∀ (i : Nat) (o : Oper), ops[i]? = some o → ∀ k ∈ depsOf o, k < i) {listed : Array Bool} (hs : listed.size = ops.size) (h : Region.ready .any ops listed = []) :
    ∀ i, i < ops.size → listed.getD i false = true := by
  intro i
  induction i using Nat.strongRecOn with
  | _ i ih =>
    intro hi
    cases hl : listed.getD i false with
    | true => rfl
    | false =>
      exfalso
      have hmem : i ∈ Region.ready .any ops listed := by
        unfold Region.ready
        rw [List.mem_filter]
        refine ⟨List.mem_range.2 hi, ?_⟩
        have h1 : listed.getD i true = false := by
          rw [Array.getD_eq_getD_getElem?] at hl ⊢
          rw [Array.getElem?_eq_getElem (by omega)] at hl ⊢
          exact hl
        have ho : ops[i]? = some ops[i] := Array.getElem?_eq_getElem hi
        rw [h1, ho]
        simp only [Bool.not_false, Bool.true_and, Option.map_some, Option.getD_some]
        rw [Array.all_eq_true']
        intro e he
        cases hb : Region.binds .any e with
        | false => rfl
        | true =>
          have hk : e.on ∈ depsOf ops[i] := by
            unfold depsOf
            rw [List.mem_map]
            exact ⟨e, List.mem_filter.2 ⟨by simpa using he, hb⟩, rfl⟩
          have hlt := hdag i _ ho _ hk
          rw [ih _ hlt (by omega)]
          rfl
      rw [h] at hmem
      cases hmem
theorem wpAny_inv (hdag : ∀ (i : Nat) (o : Oper), ops[i]? = some o → ∀ k ∈ depsOf o, k < i) {ds : List (List Nat)} (hds : ops.toList.map depsOf = ds) (hsteps : StepsI P ops Q Inv ops.toList ds 0)
    (hend : ∀ (done : Nat → Bool) (a : Act) (w : World), (∀ i, i < ops.size → done i = true) → Inv done a w → Q .normal a w) :
    ∀ (fuel : Nat) (listed : Array Bool) (a : Act) (w : World), listed.size = ops.size → undone listed ≤ fuel → Inv (fun k => listed.getD k false) a w → wpAny P .any ops Q fuel listed a w
  | 0, listed, a, w, hs, hu, hI => by
    have hr : Region.ready .any ops listed = [] := by
      unfold Region.ready
      rw [List.filter_eq_nil_iff]
      intro i hi
      rw [List.mem_range] at hi
      have : listed.getD i true = true := by
        rw [Array.getD_eq_getD_getElem?, Array.getElem?_eq_getElem (by omega)]
        cases hb : listed[i]'(by omega) with
        | true => rfl
        | false =>
          have : 0 < undone listed := List.count_pos_iff.2 (by rw [← hb]; simp)
          omega
      rw [this]
      simp
    exact ⟨hr, hend _ a w (ready_nil hdag hs hr) hI⟩
  | fuel + 1, listed, a, w, hs, hu, hI => by
    refine ⟨fun hr => hend _ a w (ready_nil hdag hs hr) hI, fun i hi => ?_⟩
    unfold Region.ready at hi
    rw [List.mem_filter, List.mem_range, Bool.and_eq_true, Bool.not_eq_true'] at hi
    obtain ⟨hlt, hf, hd⟩ := hi
    have hlf : listed[i]? = some false := by
      rw [Array.getD_eq_getD_getElem?] at hf
      rw [Array.getElem?_eq_getElem (by omega)] at hf ⊢
      rw [← hf]; rfl
    have ho : ops[i]? = some ops[i] := Array.getElem?_eq_getElem hlt
    have hdone : listed.getD i false = false := by rw [Array.getD_eq_getD_getElem?, hlf]; rfl
    have hdep : ∀ k ∈ depsOf ops[i], listed.getD k false = true := by
      intro k hk
      unfold depsOf at hk
      rw [List.mem_map] at hk
      obtain ⟨e, he, rfl⟩ := hk
      rw [List.mem_filter] at he
      rw [ho] at hd
      simp only [Option.map_some, Option.getD_some] at hd
      rw [Array.all_eq_true'] at hd
      have := hd e (by simpa using he.1)
      rw [he.2] at this
      simpa using this
    refine wpOp_step ho (fun K hK => ?_)
    have hst := StepsI.get ops.toList ds 0 hds hsteps i ops[i] (by simp) (fun k => listed.getD k false) a w (by simpa using hdone) hdep hI K
    refine hst (fun a' w' hI' => hK a' w' ?_)
    refine wpAny_inv hdag hds hsteps hend fuel _ a' w' (by simpa using hs) (by have := undone_set hlf; omega) ?_
    have : (fun k => (listed.setIfInBounds i true).getD k false) = fun k => k == 0 + i || listed.getD k false := by
      funext k
      rw [getD_set (by omega), Nat.zero_add]
    rw [this]
    exact hI'
theorem region_inv {id : Nat} {a : Act} {w : World} (hm : P.follows .mixedOrders = true) (hdag : ∀ (i : Nat) (o : Oper), ops[i]? = some o → ∀ k ∈ depsOf o, k < i) {ds : List (List Nat)} (hds : ops.toList.map depsOf = ds)
    (h0 : Inv (fun _ => false) a w.drew) (hsteps : StepsI P ops Q Inv ops.toList ds 0)
    (hend : ∀ (done : Nat → Bool) (a : Act) (w : World), (∀ i, i < ops.size → done i = true) → Inv done a w → Q .normal a w) :
    (Code.region id ops true).wp P Q a w := by
  refine wp_region_any hm ?_
  refine wpAny_inv hdag hds hsteps hend _ _ a _ (by simp) ?_ ?_
  · unfold undone
    simp
  · have : (fun k => (Array.replicate ops.size false).getD k false) = fun _ => false := by
      funext k
      rw [Array.getD_eq_getD_getElem?, Array.getElem?_replicate]
      split <;> rfl
    rw [this]
    exact h0
/-- The check by the kernel: each waits for earlier ones alone. -/
def dagB (ops : List Oper) : Bool := (ops.zipIdx).all fun p => (depsOf p.1).all (· < p.2)
theorem dag_of (h : dagB ops.toList = true) : ∀ (i : Nat) (o : Oper), ops[i]? = some o → ∀ k ∈ depsOf o, k < i := by
  intro i o ho k hk
  unfold dagB at h
  rw [List.all_eq_true] at h
  have hm : (o, i) ∈ ops.toList.zipIdx := by
    rw [List.mem_zipIdx_iff_getElem?]
    simpa using ho
  have := h _ hm
  rw [List.all_eq_true] at this
  simpa using this k hk
end
end Go.Proofs.YtakgcaehkphepaaGreatDoor
