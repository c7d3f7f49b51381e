/- errors.As: the walks. -/
import Derived.Test.YtakgcaehkphepaaGreatDoorJc
namespace Go.Proofs.YtakgcaehkphepaaGreatDoor
open Go.RowKit Go.Extern.Stop Go.Stop Go.Extern
set_option linter.unusedVariables false
set_option linter.unusedSimpArgs false

/-- What an error is: nil, or a json.wrong with its number (p: where json.errJson's text lies). -/
def errV (p : Value) : Option Int → Value
  | none => .nilIface
  | some y => .iface 71 (.agg #[.int .i64 y, .iface 195 p])
/-- The variable errors.errorType, as the model lays it. -/
def EtAt (w : World) : Prop := w.cell? ⟨3, 0, none⟩ = some (.iface 141 (.agg #[.pointer (some ⟨10, 49, none⟩)]))
theorem setRow_other {w : World} {b g : Nat} {x : Obj} (h : w.heap[b]? = some x) (c : Array Value) (hne : b ≠ g) : (w.setRow g c).heap[b]? = some x := by
  unfold World.setRow
  simp only [Array.getElem?_modify]
  rw [if_neg (by omega)]; exact h
theorem Fr.setRow {m : Nat → Prop} {a w : World} (h : Fr m a w) {g : Nat} (hp : m g ∨ a.heap.size ≤ g) (c : Array Value) : Fr m a (w.setRow g c) :=
  h.call (m' := fun k => k = g) ⟨rfl, rfl, rfl, by simp [World.setRow], fun k _ hn => by
    unfold World.setRow
    simp only [Array.getElem?_modify]
    rw [if_neg (by omega)]⟩ (fun i hi => hi ▸ hp)

theorem Ja.set71 (t b : Nat) (y e o0 o1 : Value) (W : World) (hb : W.heap[b]? = some (.cells #[y, e] 71 (0, 0))) (ht : W.heap[t]? = some (.cells #[o0, o1] 71 (0, 0))) (hy : y.oneCell' = true) (he : e.oneCell' = true) :
    (ReflectliteValue.set #[.agg #[.pointer (some ⟨10, 71, none⟩), .pointer (some ⟨t, 0, none⟩), .int .u64 409], .agg #[.pointer (some ⟨10, 71, none⟩), .pointer (some ⟨b, 0, none⟩), .int .u64 153]]).run Tryz.prog W
      = .ok (.tuple #[]) (W.setRow t #[y, e]) := by
  have hl := run_loadVar_row (P := Tryz.prog) W b 71 71 #[y, e] (0, 0) _ hb Tryz.underlying71 rfl (by kernel_rfl)
  have hs := run_storeVar_row (P := Tryz.prog) W t 71 71 #[o0, o1] #[y, e] ht (by kernel_rfl) rfl (by simp [hy, he])
  rw [rls]
  simp only [Sem.run_bind, Ja.parts71a, Ja.parts71, Result.andThen]
  simp [ReflectliteValue.flagAddr, hl, Result.andThen, Ja.direct71, hs]

set_option maxHeartbeats 4000000 in
set_option maxRecDepth 100000 in
theorem as_hit (y : Int) (ev : Value) (t : Nat) (old0 old1 : Value) (w : World) (hev : ev.oneCell' = true) (hg : EtAt w) (ht : w.heap[t]? = some (.cells #[old0, old1] 71 (0, 0))) :
    Calls Tryz.prog 52 #[.iface 71 (.agg #[.int .i64 y, ev]), .iface 73 (.pointer (some ⟨t, 0, none⟩))] w fun e w' => e = .returned (.bool true) ∧ w'.heap[t]? = some (.cells #[.int .i64 y, ev] 71 (0, 0)) ∧ Fr (· = t) w w' := by
  have h6 := @run_callFunc_extern Tryz.prog 81 _ (fun args => ReflectliteValue.unpack (args.getD 0 (.tuple #[]))) Tryz.func81 (by kernel_rfl) (by kernel_rfl) (by kernel_rfl) (by kernel_rfl)
  have h7 := @run_callFunc_extern Tryz.prog 82 _ (ReflectliteValue.methodAny (ReflectliteValue.valueError "reflectlite.Value.Type" 0) (fun t _ _ _ => ReflectliteType.toType t)) Tryz.func82 (by kernel_rfl) (by kernel_rfl) (by kernel_rfl) (by kernel_rfl)
  have h8 := @run_callFunc_extern Tryz.prog 83 _ (ReflectliteValue.method (ReflectliteValue.valueError "reflectlite.Value.IsNil" 0) ReflectliteValue.isNil) Tryz.func83 (by kernel_rfl) (by kernel_rfl) (by kernel_rfl) (by kernel_rfl)
  have h27 := @run_callFunc_extern Tryz.prog 175 _ (ReflectliteType.abiMethod fun t => do pure (.int .u8 (← Rtype.kind t))) Tryz.func175 (by kernel_rfl) (by kernel_rfl) (by kernel_rfl) (by kernel_rfl)
  have h37 := @run_callFunc_extern Tryz.prog 187 _ (ReflectliteType.method ReflectliteType.elem) Tryz.func187 (by kernel_rfl) (by kernel_rfl) (by kernel_rfl) (by kernel_rfl)
  have h38 := @run_callFunc_extern Tryz.prog 188 _ (ReflectliteType.relation "Implements" ReflectliteType.implements_) Tryz.func188 (by kernel_rfl) (by kernel_rfl) (by kernel_rfl) (by kernel_rfl)
  have h10 := @run_callFunc_extern Tryz.prog 105 _ ReflectliteType.typeOf Tryz.func105 (by kernel_rfl) (by kernel_rfl) (by kernel_rfl) (by kernel_rfl)
  have h35 := @run_callFunc_extern Tryz.prog 185 _ (ReflectliteType.relation "AssignableTo" ReflectliteType.assignableTo) Tryz.func185 (by kernel_rfl) (by kernel_rfl) (by kernel_rfl) (by kernel_rfl)
  have h11 := @run_callFunc_extern Tryz.prog 106 _ (ReflectliteValue.method (ReflectliteValue.valueError "reflectlite.Value.Elem" 0) ReflectliteValue.elem) Tryz.func106 (by kernel_rfl) (by kernel_rfl) (by kernel_rfl) (by kernel_rfl)
  have h12 := @run_callFunc_extern Tryz.prog 107 _ ReflectliteValue.set Tryz.func107 (by kernel_rfl) (by kernel_rfl) (by kernel_rfl) (by kernel_rfl)
  have tO := Ja.typeOf71
  have mA := Ja.methodAssignableTo
  have a25 := Ja.assignable71
  have v25 := Ja.valueOf71
  have f6 := Ja.valueOf73
  have f7 := Ja.type73
  have mK := Ja.methodKind
  have mE := Ja.methodElem
  have mI := Ja.methodImplements
  have k27 := Ja.kind73
  have k25 := Ja.kind71
  have e27 := Ja.elem73
  have i25 := Ja.implements71
  have hT := lt_of ht
  have H1 : (w.alloc (.cells #[.pointer (some ⟨t, 0, none⟩)] 73)).heap[w.heap.size]? = some (.cells #[.pointer (some ⟨t, 0, none⟩)] 73) := alloc_new _ _
  have n8 := Ja.isNil73 ⟨w.heap.size, 0, none⟩ ⟨t, 0, none⟩ ((w.alloc (.cells #[.pointer (some ⟨t, 0, none⟩)] 73)).alloc (.cells #[.pointer (some ⟨10, 73, none⟩), .pointer (some ⟨w.heap.size, 0, none⟩), .int .u64 150] 114)) (by rw [cell_of (alloc_old H1 _)]; rfl)
  have hg2 : ((w.alloc (.cells #[.pointer (some ⟨t, 0, none⟩)] 73)).alloc (.cells #[.pointer (some ⟨10, 73, none⟩), .pointer (some ⟨w.heap.size, 0, none⟩), .int .u64 150] 114)).cell? ⟨3, 0, none⟩ = some (.iface 141 (.agg #[.pointer (some ⟨10, 49, none⟩)])) := ((((Fr.refl none' w).alloc _).alloc _).cell hg id)
  have el := Ja.elemV73 ⟨w.heap.size, 0, none⟩ ⟨t, 0, none⟩ (((w.alloc (.cells #[.pointer (some ⟨t, 0, none⟩)] 73)).alloc (.cells #[.pointer (some ⟨10, 73, none⟩), .pointer (some ⟨w.heap.size, 0, none⟩), .int .u64 150] 114)).alloc (.cells #[.pointer (some ⟨10, 73, none⟩), .pointer (some ⟨w.heap.size, 0, none⟩), .int .u64 150] 114)) (by rw [cell_of (alloc_old (alloc_old H1 _) _)]; rfl)
  have HB : ((((w.alloc (.cells #[.pointer (some ⟨t, 0, none⟩)] 73)).alloc (.cells #[.pointer (some ⟨10, 73, none⟩), .pointer (some ⟨w.heap.size, 0, none⟩), .int .u64 150] 114)).alloc (.cells #[.pointer (some ⟨10, 73, none⟩), .pointer (some ⟨w.heap.size, 0, none⟩), .int .u64 150] 114)).alloc (.cells #[.int .i64 y, ev] 71)).heap[w.heap.size + 1 + 1 + 1]? = some (.cells #[.int .i64 y, ev] 71) := alloc_at _ (by simp)
  have st := Ja.set71 t (w.heap.size + 1 + 1 + 1) (.int .i64 y) ev old0 old1 ((((w.alloc (.cells #[.pointer (some ⟨t, 0, none⟩)] 73)).alloc (.cells #[.pointer (some ⟨10, 73, none⟩), .pointer (some ⟨w.heap.size, 0, none⟩), .int .u64 150] 114)).alloc (.cells #[.pointer (some ⟨10, 73, none⟩), .pointer (some ⟨w.heap.size, 0, none⟩), .int .u64 150] 114)).alloc (.cells #[.int .i64 y, ev] 71)) HB (alloc_old (alloc_old (alloc_old (alloc_old ht _) _) _) _) rfl hev
  have HT := Lib.hid (alloc_old (alloc_old (alloc_old (alloc_old ht (.cells #[.pointer (some ⟨t, 0, none⟩)] 73)) (.cells #[.pointer (some ⟨10, 73, none⟩), .pointer (some ⟨w.heap.size, 0, none⟩), .int .u64 150] 114)) (.cells #[.pointer (some ⟨10, 73, none⟩), .pointer (some ⟨w.heap.size, 0, none⟩), .int .u64 150] 114)) (.cells #[.int .i64 y, ev] 71))
  clear H1 HB ht hg hev
  go_enter Tryz.func52, Tryz.ntmps52
  go_wp2
  refine wp_loop_rounds 1 ?_
  rw [rounds_succ]
  go_wp2
  go_ret
  exact ⟨rfl, setRow_heap _ _ _ _ _ _ HT.out, ((((Fr.refl (· = t) _).alloc _).alloc _).alloc _).alloc _ |>.setRow (.inl rfl) _⟩

set_option maxHeartbeats 4000000 in
set_option maxRecDepth 100000 in
theorem as_miss (p : Value) (t : Nat) (w : World) (hg : EtAt w) :
    Calls Tryz.prog 52 #[.iface 195 p, .iface 73 (.pointer (some ⟨t, 0, none⟩))] w fun e w' => e = .returned (.bool false) ∧ Fr none' w w' := by
  have h6 := @run_callFunc_extern Tryz.prog 81 _ (fun args => ReflectliteValue.unpack (args.getD 0 (.tuple #[]))) Tryz.func81 (by kernel_rfl) (by kernel_rfl) (by kernel_rfl) (by kernel_rfl)
  have h7 := @run_callFunc_extern Tryz.prog 82 _ (ReflectliteValue.methodAny (ReflectliteValue.valueError "reflectlite.Value.Type" 0) (fun t _ _ _ => ReflectliteType.toType t)) Tryz.func82 (by kernel_rfl) (by kernel_rfl) (by kernel_rfl) (by kernel_rfl)
  have h8 := @run_callFunc_extern Tryz.prog 83 _ (ReflectliteValue.method (ReflectliteValue.valueError "reflectlite.Value.IsNil" 0) ReflectliteValue.isNil) Tryz.func83 (by kernel_rfl) (by kernel_rfl) (by kernel_rfl) (by kernel_rfl)
  have h27 := @run_callFunc_extern Tryz.prog 175 _ (ReflectliteType.abiMethod fun t => do pure (.int .u8 (← Rtype.kind t))) Tryz.func175 (by kernel_rfl) (by kernel_rfl) (by kernel_rfl) (by kernel_rfl)
  have h37 := @run_callFunc_extern Tryz.prog 187 _ (ReflectliteType.method ReflectliteType.elem) Tryz.func187 (by kernel_rfl) (by kernel_rfl) (by kernel_rfl) (by kernel_rfl)
  have h38 := @run_callFunc_extern Tryz.prog 188 _ (ReflectliteType.relation "Implements" ReflectliteType.implements_) Tryz.func188 (by kernel_rfl) (by kernel_rfl) (by kernel_rfl) (by kernel_rfl)
  have h10 := @run_callFunc_extern Tryz.prog 105 _ ReflectliteType.typeOf Tryz.func105 (by kernel_rfl) (by kernel_rfl) (by kernel_rfl) (by kernel_rfl)
  have h35 := @run_callFunc_extern Tryz.prog 185 _ (ReflectliteType.relation "AssignableTo" ReflectliteType.assignableTo) Tryz.func185 (by kernel_rfl) (by kernel_rfl) (by kernel_rfl) (by kernel_rfl)
  have h11 := @run_callFunc_extern Tryz.prog 106 _ (ReflectliteValue.method (ReflectliteValue.valueError "reflectlite.Value.Elem" 0) ReflectliteValue.elem) Tryz.func106 (by kernel_rfl) (by kernel_rfl) (by kernel_rfl) (by kernel_rfl)
  have h12 := @run_callFunc_extern Tryz.prog 107 _ ReflectliteValue.set Tryz.func107 (by kernel_rfl) (by kernel_rfl) (by kernel_rfl) (by kernel_rfl)
  have tO := Ja.typeOf195
  have mA := Ja.methodAssignableTo
  have a25 := Ja.assignable195
  have f6 := Ja.valueOf73
  have f7 := Ja.type73
  have mK := Ja.methodKind
  have mE := Ja.methodElem
  have mI := Ja.methodImplements
  have k27 := Ja.kind73
  have k25 := Ja.kind71
  have e27 := Ja.elem73
  have i25 := Ja.implements71
  have nA := Ja.noAs
  have nU := Ja.noUnwrap
  have nUs := Ja.noUnwraps
  have H1 : (w.alloc (.cells #[.pointer (some ⟨t, 0, none⟩)] 73)).heap[w.heap.size]? = some (.cells #[.pointer (some ⟨t, 0, none⟩)] 73) := alloc_new _ _
  have n8 := Ja.isNil73 ⟨w.heap.size, 0, none⟩ ⟨t, 0, none⟩ ((w.alloc (.cells #[.pointer (some ⟨t, 0, none⟩)] 73)).alloc (.cells #[.pointer (some ⟨10, 73, none⟩), .pointer (some ⟨w.heap.size, 0, none⟩), .int .u64 150] 114)) (by rw [cell_of (alloc_old H1 _)]; rfl)
  have hg2 : ((w.alloc (.cells #[.pointer (some ⟨t, 0, none⟩)] 73)).alloc (.cells #[.pointer (some ⟨10, 73, none⟩), .pointer (some ⟨w.heap.size, 0, none⟩), .int .u64 150] 114)).cell? ⟨3, 0, none⟩ = some (.iface 141 (.agg #[.pointer (some ⟨10, 49, none⟩)])) := ((((Fr.refl none' w).alloc _).alloc _).cell hg id)
  clear H1 hg
  go_enter Tryz.func52, Tryz.ntmps52
  go_wp2
  refine wp_loop_rounds 1 ?_
  rw [rounds_succ]
  go_wp2
  go_ret
  exact ⟨rfl, (((Fr.refl _ _).alloc _).alloc _).alloc _⟩

/-! ### json.told, (*json.reader).fail -/
set_option maxHeartbeats 400000 in
theorem told_nil (w : World) : Calls Tryz.prog 30 #[.nilIface] w fun e w' => e = .returned (.int .i64 0) ∧ Fr none' w w' := by
  go_enter Tryz.func30, Tryz.ntmps30
  go_wp2
  go_ret
  exact ⟨rfl, (Fr.refl _ _).alloc _⟩

set_option maxHeartbeats 400000 in
theorem told_hit (y : Int) (ev : Value) (w : World) (hev : ev.oneCell' = true) (hg : EtAt w) :
    Calls Tryz.prog 30 #[.iface 71 (.agg #[.int .i64 y, ev])] w fun e w' => e = .returned (.int .i64 y) ∧ Fr none' w w' := by
  have HG := Lib.hid (show EtAt (w.alloc (.cells #[.int .i64 0, .nilIface] 71)) from (((Fr.refl none' w).alloc _).cell hg id))
  clear hg
  go_enter Tryz.func30, Tryz.ntmps30
  go_wp2_with (go_at_call 52; refine (as_hit y ev _ (.int .i64 0) .nilIface _ hev HG.out (alloc_new w _)).mono ?_; rintro e w1 ⟨rfl, h1, f1⟩; have c0 : w1.cell? ⟨w.heap.size, 0, none⟩ = some (.int .i64 y) := (by rw [cell_of h1]; rfl); have F1 := Lib.hid f1; clear f1 h1)
  go_ret
  exact ⟨rfl, ((Fr.refl none' w).alloc _).call F1.out (fun i hi => .inr (by omega))⟩

set_option maxHeartbeats 400000 in
theorem told_miss (p : Value) (w : World) (hg : EtAt w) :
    Calls Tryz.prog 30 #[.iface 195 p] w fun e w' => e = .returned (.int .i64 150) ∧ Fr none' w w' := by
  have HG := Lib.hid (show EtAt (w.alloc (.cells #[.int .i64 0, .nilIface] 71)) from (((Fr.refl none' w).alloc _).cell hg id))
  clear hg
  go_enter Tryz.func30, Tryz.ntmps30
  go_wp2_with (go_at_call 52; refine (as_miss p _ _ HG.out).mono ?_; rintro e w1 ⟨rfl, f1⟩; have F1 := Lib.hid f1; clear f1)
  go_ret
  exact ⟨rfl, ((Fr.refl none' w).alloc _).trans F1.out⟩

theorem told_c (p : Value) (o : Option Int) (w : World) (hg : EtAt w) :
    Calls Tryz.prog 30 #[errV p o] w fun e w' => e = .returned (.int .i64 (o.getD 0)) ∧ Fr none' w w' := by
  cases o with
  | none => exact told_nil w
  | some y => exact told_hit y _ w rfl hg

set_option maxHeartbeats 400000 in
theorem fail_no (b : Nat) (s : Bs) (n y z : Int) (p : Value) (w : World) (h : Rd w b s n (errV p (some z))) :
    Calls Tryz.prog 29 #[.pointer (some ⟨b, 0, none⟩), .int .i64 y] w fun e w' => e = .returned (.tuple #[]) ∧ w' = w := by
  have h2 := h.c2
  clear h
  unfold errV at h2
  go_enter Tryz.func29, Tryz.ntmps29
  go_wp2
  go_end0
  exact ⟨rfl, rfl⟩

set_option maxHeartbeats 400000 in
theorem fail_yes (b : Nat) (s : Bs) (n y : Int) (p : Value) (w : World) (hj : w.cell? ⟨0, 0, none⟩ = some (.iface 195 p)) (h : Rd w b s n .nilIface) :
    Calls Tryz.prog 29 #[.pointer (some ⟨b, 0, none⟩), .int .i64 y] w fun e w' => e = .returned (.tuple #[]) ∧ Rd w' b s n (errV p (some y)) ∧ Fr (· = b) w w' := by
  have h2 := h.c2
  have f2 := h.fz 2
  have H := Lib.hid h
  clear h
  go_enter Tryz.func29, Tryz.ntmps29
  go_wp2
  go_end0
  exact ⟨rfl, H.out.set2 _, Fr.set' b 2 _ rfl⟩

/-- The first that is wrong stays. -/
def failE (o : Option Int) (y : Int) : Option Int := some (o.getD y)
theorem fail_c (b : Nat) (s : Bs) (n y : Int) (o : Option Int) (p : Value) (w : World) (hj : w.cell? ⟨0, 0, none⟩ = some (.iface 195 p)) (h : Rd w b s n (errV p o)) :
    Calls Tryz.prog 29 #[.pointer (some ⟨b, 0, none⟩), .int .i64 y] w fun e w' => e = .returned (.tuple #[]) ∧ Rd w' b s n (errV p (failE o y)) ∧ Fr (· = b) w w' := by
  cases o with
  | none => exact fail_yes b s n y p w hj h
  | some z =>
    refine (fail_no b s n y z p w h).mono ?_
    rintro e w' ⟨rfl, rfl⟩
    exact ⟨rfl, h, Fr.refl _ _⟩
end Go.Proofs.YtakgcaehkphepaaGreatDoor
