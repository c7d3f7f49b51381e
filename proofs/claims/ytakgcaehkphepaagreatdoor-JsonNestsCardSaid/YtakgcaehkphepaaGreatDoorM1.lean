/- (*json.reader).items: the walk. -/
import Derived.Test.YtakgcaehkphepaaGreatDoorKr
namespace Go.Proofs.YtakgcaehkphepaaGreatDoor
open Go.RowKit
set_option linter.unusedVariables false
set_option linter.unusedSimpArgs false

/-- How many rounds may follow. -/
def Fuel (gk g n : Nat) (s : Bs) (o : Option Int) : Prop := (o = none → s.length < g ∧ 2 * g ≤ gk ∧ n + s.length ≤ 1000000000) ∧ 1 ≤ gk

set_option maxHeartbeats 8000000 in
set_option maxRecDepth 100000 in
theorem items_c (p : Value) (d : Int) (hd : 0 ≤ d) (hd' : d < 64) (val : Bs → J × Bs × Option Int) (hvl : ∀ s, (val s).2.1.length ≤ s.length)
    (HV : ValOk p (d + 1) val)
    (kind : Int) (hkind : kind = 4 ∨ kind = 5) (cl : UInt8) (r : Nat) (c : UInt8) (s : Bs) (w : World) (h : RS p w r (c :: s) d none) (hN : s.length ≤ 1000000000) :
    Calls Tryz.prog 76 #[.pointer (some ⟨r, 0, none⟩), .int .i64 kind, .string (bs [cl])] w fun e w' =>
      ∃ kv lv, e = .returned (jVal (if [cl].isPrefixOf (skipB s) then emptyJ kind [] [] else (itemsLoop val kind cl ((skipB s).length + 1) (skipB s) none [] []).1) kv lv) ∧
        JAt w' (fun k => w.heap.size ≤ k) (if [cl].isPrefixOf (skipB s) then emptyJ kind [] [] else (itemsLoop val kind cl ((skipB s).length + 1) (skipB s) none [] []).1) kv lv ∧
        RS p w' r (if [cl].isPrefixOf (skipB s) then (skipB s).drop 1 else (itemsLoop val kind cl ((skipB s).length + 1) (skipB s) none [] []).2.1) d (if [cl].isPrefixOf (skipB s) then none else (itemsLoop val kind cl ((skipB s).length + 1) (skipB s) none [] []).2.2) ∧ Fr (· = r) w w' := by
  have hmf : ∀ (fn : Fn) (first cap : Array Value) (w : World), (Instr.makeFunc fn first cap).run Tryz.prog w = .ok (.func fn first cap) w := fun _ _ _ _ => rfl
  have hr := h.rd.lt
  obtain ⟨FIN, hFIN⟩ : ∃ FIN, (if [cl].isPrefixOf (skipB s) then (emptyJ kind [] [], (skipB s).drop 1, none) else itemsLoop val kind cl ((skipB s).length + 1) (skipB s) none [] []) = FIN := ⟨_, rfl⟩
  have hF1 : (if [cl].isPrefixOf (skipB s) then emptyJ kind [] [] else (itemsLoop val kind cl ((skipB s).length + 1) (skipB s) none [] []).1) = FIN.1 := by rw [← hFIN]; split <;> rfl
  have hF2 : (if [cl].isPrefixOf (skipB s) then (skipB s).drop 1 else (itemsLoop val kind cl ((skipB s).length + 1) (skipB s) none [] []).2.1) = FIN.2.1 := by rw [← hFIN]; split <;> rfl
  have hF3 : (if [cl].isPrefixOf (skipB s) then none else (itemsLoop val kind cl ((skipB s).length + 1) (skipB s) none [] []).2.2) = FIN.2.2 := by rw [← hFIN]; split <;> rfl
  rw [hF1, hF2, hF3]
  have HFIN := Lib.hid hFIN
  clear hF1 hF2 hF3 hFIN
  have HI := Lib.hid (show IS p r w.heap.size (w.heap.size + 1) (w.heap.size + 1 + 1) (w.heap.size + 3) kind (((w.alloc (.cells #[.pointer (some ⟨r, 0, none⟩)] 45)).alloc (.cells #[.int .i64 0, .bool false, .int .i64 0, .string ⟨#[]⟩, .slice none 0 0, .slice none 0 0] 26)).alloc (.cells #[.int .i64 kind, .bool false, .int .i64 0, .string ⟨#[]⟩, .slice none 0 0, .slice none 0 0] 26)) (c :: s) d none [] [] (.slice none 0 0) (.slice none 0 0) [] from
    { rs := ((h.alloc _).alloc _).alloc _
      bx := alloc_old (alloc_old (alloc_new w _) _) _
      b6 := alloc_old (alloc_at _ (by simp)) _
      b := alloc_at _ (by simp)
      kr := ⟨rfl, .inl ⟨rfl, rfl⟩⟩
      lr := ⟨rfl, .inl ⟨rfl, rfl⟩⟩
      c := .nil
      sz := by simp })
  have HF := Lib.hid (show Fr (· = r) w (((w.alloc (.cells #[.pointer (some ⟨r, 0, none⟩)] 45)).alloc (.cells #[.int .i64 0, .bool false, .int .i64 0, .string ⟨#[]⟩, .slice none 0 0, .slice none 0 0] 26)).alloc (.cells #[.int .i64 kind, .bool false, .int .i64 0, .string ⟨#[]⟩, .slice none 0 0, .slice none 0 0] 26)) from (((Fr.refl _ _).alloc _).alloc _).alloc _)
  have HO := Lib.hid (show IOrd r w.heap.size (w.heap.size + 1) (w.heap.size + 1 + 1) (w.heap.size + 3) from ⟨h.rd.lt, by omega, by omega, by omega⟩)
  have hlo := h.lo
  clear h
  go_enter_defers Tryz.func76, Tryz.ntmps76
  go_upto_region 2 with (fail)
  obtain ⟨w3, hw3⟩ : ∃ w3, (((w.alloc (.cells #[.pointer (some ⟨r, 0, none⟩)] 45)).alloc (.cells #[.int .i64 0, .bool false, .int .i64 0, .string ⟨#[]⟩, .slice none 0 0, .slice none 0 0] 26)).alloc (.cells #[.int .i64 kind, .bool false, .int .i64 0, .string ⟨#[]⟩, .slice none 0 0, .slice none 0 0] 26)) = w3 := ⟨_, rfl⟩
  rw [hw3] at HI HF ⊢
  clear hw3
  have cb := HI.out.cb
  have c1 := HI.out.rs.rd.c1
  have z1 := HI.out.rs.rd.fz 1
  go_upto_region 7 with (fail)
  have I4 := Lib.hid (HI.out.read HO.out (HI.out.rs.next (HI.out.rs.rd.set1 (d + 1)) (Fr.set' r 1 _ rfl)) (Fr.set' r 1 _ rfl))
  have F4 := Lib.hid (HF.out.trans (Fr.set' (m := (· = r)) r 1 (.int .i64 (d + 1)) rfl))
  obtain ⟨w4, hw4⟩ : ∃ w4, w3.setCell ⟨r, 1, none⟩ (.int .i64 (d + 1)) = w4 := ⟨_, rfl⟩
  rw [hw4] at I4 F4 ⊢
  clear hw4 HI HF cb c1 z1
  have cb := I4.out.cb
  have c0 := I4.out.rs.rd.c0
  have z0 := I4.out.rs.rd.fz 0
  have hx : (bs (c :: s)).extract 1 (bs (c :: s)).size = bs s := by rw [bs_extract, bs_size]; simp
  have hz : 1 ≤ (bs (c :: s)).size := by rw [bs_size]; simp
  go_region
  have I5 := Lib.hid (I4.out.read HO.out (I4.out.rs.next (I4.out.rs.rd.set0 s) (Fr.set' r 0 _ rfl)).drew (Fr.set' (m := (· = r)) r 0 _ rfl).drew)
  have F5 := Lib.hid (F4.out.trans (Fr.set' (m := (· = r)) r 0 (.string (bs s)) rfl).drew)
  obtain ⟨w5, hw5⟩ : ∃ w5, (w4.setCell ⟨r, 0, none⟩ (.string (bs s))).drew = w5 := ⟨_, rfl⟩
  rw [hw5] at I5 F5 ⊢
  clear hw5 I4 F4 cb c0 z0 hx hz
  have cb := I5.out.cb
  go_wp2_with fail
  refine (skip_r p r s (d + 1) none _ I5.out.rs).mono ?_
  rintro e w6 ⟨rfl, r6, f6⟩
  have I6 := Lib.hid (I5.out.read HO.out r6 f6)
  have F6 := Lib.hid (F5.out.trans f6)
  clear r6 f6 cb I5 F5
  have cb := I6.out.cb
  go_wp2_with fail
  refine (take_r p r (skipB s) [cl] (d + 1) none _ I6.out.rs).mono ?_
  rintro e w7 ⟨rfl, r7, f7⟩
  cases hq : List.isPrefixOf [cl] (skipB s) with
  | true =>
    rw [cutPre_yes hq] at r7
    have I7 := Lib.hid (I6.out.read HO.out r7 f7)
    have F7 := Lib.hid (F6.out.trans f7)
    have hf := HFIN.out
    rw [if_pos hq] at hf
    have HF8 := Lib.hid hf
    clear r7 f7 cb I6 F6 hq hf
    have eb := I7.out.b
    have eb6 := I7.out.b6
    have b0 := B26.c0 eb
    have b1 := B26.c1 eb
    have b2 := B26.c2 eb
    have b3 := B26.c3 eb
    have b4 := B26.c4 eb
    have b5 := B26.c5 eb
    have z0 := B26.fz eb 0
    have z1 := B26.fz eb 1
    have z2 := B26.fz eb 2
    have z3 := B26.fz eb 3
    have z4 := B26.fz eb 4
    have z5 := B26.fz eb 5
    have y0 := B26.c0 eb6
    have y1 := B26.c1 eb6
    have y2 := B26.c2 eb6
    have y3 := B26.c3 eb6
    have y4 := B26.c4 eb6
    have y5 := B26.c5 eb6
    have x0 := B26.fz eb6 0
    have x1 := B26.fz eb6 1
    have x2 := B26.fz eb6 2
    have x3 := B26.fz eb6 3
    have x4 := B26.fz eb6 4
    have x5 := B26.fz eb6 5
    clear eb eb6
    go_wp2
    refine put_elim I7.out.b6 ?_
    intro w8 hb8 f8
    clear b0 b1 b2 b3 b4 b5 z0 z1 z2 z3 z4 z5 y0 y1 y2 y3 y4 y5 x0 x1 x2 x3 x4 x5
    have o1 := HO.out.h1
    have o2 := HO.out.h2
    have R8 := show RS p w8 r _ (d + 1) _ from ⟨I7.out.rs.gl.fr f8 (fun k hk e => by have := I7.out.rs.lo; omega), I7.out.rs.rd.fr f8 (by omega), I7.out.rs.lo⟩
    have X8 := f8.get I7.out.bx (by omega)
    have T8 := I7.out.tree.fr f8 (fun k hk e => by omega)
    refine leaves_cons (f := 98) (args := #[.pointer (some ⟨w.heap.size, 0, none⟩)]) (by simp) (by simp [go_sem]) ?_
    refine (nestLess p r w.heap.size _ d _ .returning w8 R8 hd (by omega) X8).mono ?_
    rintro e u' w9 ⟨rfl, rfl, R9, f9⟩
    refine ⟨_, ret26 rfl rfl (hb8.fr f9 (by omega)), ?_⟩
    rw [← HF8.out]
    exact ⟨.slice none 0 0, .slice none 0 0, rfl, (T8.fr f9 (fun k hk e => by omega)).mono (fun k hk _ => by omega), R9, (F7.out.call f8 (fun i hi => .inr (by omega))).trans f9⟩
  | false =>
    rw [cutPre_no hq] at r7
    have I7 := Lib.hid (I6.out.read HO.out r7 f7)
    have F7 := Lib.hid (F6.out.trans f7)
    have hf := HFIN.out
    rw [if_neg (by rw [hq]; simp)] at hf
    have HF8 := Lib.hid hf
    have HL := Lib.hid (show (skipB s).length ≤ 1000000000 from Nat.le_trans (skipB_len s) hN)
    clear r7 f7 cb I6 F6 hq hf HFIN
    go_wp2
    go_loopg [46] (2 * ((skipB s).length + 1)) (fun gk _ wx => ∃ (g : Nat) (s' : Bs) (o' : Option Int) (ks : List Bs) (l : List J) (kv lv : Value) (cs : List Value), IS p r w.heap.size (w.heap.size + 1) (w.heap.size + 1 + 1) (w.heap.size + 3) kind wx s' (d + 1) o' ks l kv lv cs ∧ Fr (· = r) w wx ∧ Fuel gk g l.length s' o' ∧ ks.length + s'.length ≤ 1000000000 ∧ itemsLoop val kind cl g s' o' ks l = FIN)
    case atStart => exact ⟨_, _, _, _, _, _, _, _, I7.out, F7.out, ⟨fun _ => ⟨Nat.lt_succ_self _, Nat.le_refl _, by simpa using HL.out⟩, by omega⟩, by simpa using HL.out, HF8.out⟩
    case round =>
      obtain ⟨g, s', o', ks, l, kv, lv, cs, hI, hF, hlt, hkl, hfin⟩ := hrel
      have I1 := Lib.hid hI
      have F1 := Lib.hid hF
      have HI := Lib.hid (And.intro hlt (And.intro hkl hfin))
      obtain ⟨gm, rfl⟩ : ∃ gm, gk = gm + 1 := ⟨gk - 1, by have := HI.out.1.2; omega⟩
      have cb := I1.out.cb
      have c2 := I1.out.rs.rd.c2
      clear hI hF hlt hkl hfin I7 F7 HF8 HL
      cases o' with
      | some y =>
        unfold errV at c2
        have HE := Lib.hid (show (emptyJ kind ks l, s', some y) = FIN from (by have h := HI.out.2.2; cases g <;> exact h))
        obtain ⟨A1, n1, rfl⟩ := own_form I1.out.kr
        obtain ⟨A2, n2, rfl⟩ := own_form I1.out.lr
        have eb := I1.out.b
        have eb6 := I1.out.b6
        have b0 := B26.c0 eb
        have b1 := B26.c1 eb
        have b2 := B26.c2 eb
        have b3 := B26.c3 eb
        have b4 := B26.c4 eb
        have b5 := B26.c5 eb
        have z0 := B26.fz eb 0
        have z1 := B26.fz eb 1
        have z2 := B26.fz eb 2
        have z3 := B26.fz eb 3
        have z4 := B26.fz eb 4
        have z5 := B26.fz eb 5
        have y0 := B26.c0 eb6
        have y1 := B26.c1 eb6
        have y2 := B26.c2 eb6
        have y3 := B26.c3 eb6
        have y4 := B26.c4 eb6
        have y5 := B26.c5 eb6
        have x0 := B26.fz eb6 0
        have x1 := B26.fz eb6 1
        have x2 := B26.fz eb6 2
        have x3 := B26.fz eb6 3
        have x4 := B26.fz eb6 4
        have x5 := B26.fz eb6 5
        clear eb eb6
        go_wp2
        refine put_elim I1.out.b6 ?_
        intro w8 hb8 f8
        clear b0 b1 b2 b3 b4 b5 z0 z1 z2 z3 z4 z5 y0 y1 y2 y3 y4 y5 x0 x1 x2 x3 x4 x5
        have o1 := HO.out.h1
        have o2 := HO.out.h2
        have R8 := show RS p w8 r _ (d + 1) _ from ⟨I1.out.rs.gl.fr f8 (fun k hk e => by have := I1.out.rs.lo; omega), I1.out.rs.rd.fr f8 (by omega), I1.out.rs.lo⟩
        have X8 := f8.get I1.out.bx (by omega)
        have T8 := I1.out.tree.fr f8 (fun k hk e => by omega)
        refine leaves_cons (f := 98) (args := #[.pointer (some ⟨w.heap.size, 0, none⟩)]) (by simp) (by simp [go_sem]) ?_
        refine (nestLess p r w.heap.size _ d _ .returning w8 R8 hd (by omega) X8).mono ?_
        rintro e u' w9 ⟨rfl, rfl, R9, f9⟩
        refine ⟨_, ret26 rfl rfl (hb8.fr f9 (by omega)), ?_⟩
        rw [← HE.out]
        exact ⟨_, _, rfl, (T8.fr f9 (fun k hk e => by omega)).mono (fun k hk _ => by omega), R9, (F1.out.call f8 (fun i hi => .inr (by omega))).trans f9⟩
      | none =>
        unfold errV at c2
        have HG := Lib.hid (HI.out.1.1 rfl)
        obtain ⟨g, rfl⟩ : ∃ g', g = g' + 1 := ⟨g - 1, by have := HG.out.1; omega⟩
        go_wp2_with fail
        refine (skip_r p r s' (d + 1) none _ I1.out.rs).mono ?_
        rintro e w2 ⟨rfl, r2, f2⟩
        have I2 := Lib.hid (I1.out.read HO.out r2 f2)
        have F2 := Lib.hid (F1.out.trans f2)
        clear r2 f2 cb c2 I1 F1
        have cb := I2.out.cb
        go_upto_if 56 with (fail)
        go_cut [7] from 46 to 98 (fun v wx => v = .pointer (some ⟨w.heap.size + 1 + 1, 0, none⟩) ∧ ∃ (kv' : Value), IS p r w.heap.size (w.heap.size + 1) (w.heap.size + 1 + 1) (w.heap.size + 3) kind wx (roundK kind s' ks).2.1 (d + 1) (roundK kind s' ks).2.2 (roundK kind s' ks).1 l kv' lv cs ∧ Fr (· = r) w wx)
        case first =>
          rcases hkind with rfl | rfl
          · go_wp2
            go_meet
            case rel => exact ⟨rfl, kv, I2.out, F2.out⟩
          · go_wp2_with fail
            refine (key_c p r (w.heap.size + 1 + 1) (w.heap.size + 3) (skipB s') (d + 1) none _ I2.out.rs (by have := skipB_len s'; have := HI.out.2.1; omega) _ _ _ _ _ kv ks I2.out.b I2.out.kr (by have := HO.out.h1; omega) (by omega) I2.out.sz (by have := HI.out.2.1; omega)).mono ?_
            rintro e w3 ⟨rfl, kv', b3, k3, r3, f3, a3⟩
            have I3 := Lib.hid (I2.out.key HO.out b3 k3 r3 f3 a3)
            have F3 := Lib.hid (F2.out.call f3 (fun i hi => by
              rcases hi with e | e | e
              · exact .inl e
              · exact .inr (by omega)
              · exact .inr (by have := (ownsRow_ge I2.out.kr e).1; omega)))
            clear b3 k3 r3 f3 a3
            go_wp2
            go_meet
            case rel => exact ⟨rfl, kv', I3.out, F3.out⟩
        case rest =>
          obtain ⟨rfl, kv', hI3, hF3⟩ := hcut
          have HR := Lib.hid HI.out.2.2
          have I3 := Lib.hid hI3
          have F3 := Lib.hid hF3
          have hK := Lib.hid (show (roundK kind s' ks).2.1.length ≤ s'.length ∧ (roundK kind s' ks).1.length + (roundK kind s' ks).2.1.length ≤ ks.length + s'.length from roundK_len kind s' ks)
          obtain ⟨RK, hRK⟩ : ∃ RK, roundK kind s' ks = RK := ⟨_, rfl⟩
          have hr := HR.out
          simp only [itemsLoop] at hr
          rw [hRK] at I3 hK hr
          have HR2 := Lib.hid hr
          clear hI3 hF3 HR hRK hr I2 F2 cb
          have cb := I3.out.cb
          have c2 := I3.out.rs.rd.c2
          cases hRK3 : RK.2.2 with
          | some y =>
            have hr := HR2.out
            rw [hRK3] at c2 I3 hr
            unfold errV at c2
            have HE0 := Lib.hid (show (emptyJ kind RK.1 l, skipB RK.2.1, some y) = FIN from hr)
            clear hr HR2
            go_wp2_with fail
            refine (skip_r p r RK.2.1 (d + 1) (some y) _ I3.out.rs).mono ?_
            rintro e w4 ⟨rfl, r4, f4⟩
            have I4 := Lib.hid (I3.out.read HO.out r4 f4)
            have F4 := Lib.hid (F3.out.trans f4)
            clear r4 f4 I3 F3 cb c2
            have cb := I4.out.cb
            have c2 := I4.out.rs.rd.c2
            unfold errV at c2
            obtain ⟨A1, n1, rfl⟩ := own_form I4.out.kr
            obtain ⟨A2, n2, rfl⟩ := own_form I4.out.lr
            have eb := I4.out.b
            have eb6 := I4.out.b6
            have b0 := B26.c0 eb
            have b1 := B26.c1 eb
            have b2 := B26.c2 eb
            have b3 := B26.c3 eb
            have b4 := B26.c4 eb
            have b5 := B26.c5 eb
            have z0 := B26.fz eb 0
            have z1 := B26.fz eb 1
            have z2 := B26.fz eb 2
            have z3 := B26.fz eb 3
            have z4 := B26.fz eb 4
            have z5 := B26.fz eb 5
            have y0 := B26.c0 eb6
            have y1 := B26.c1 eb6
            have y2 := B26.c2 eb6
            have y3 := B26.c3 eb6
            have y4 := B26.c4 eb6
            have y5 := B26.c5 eb6
            have x0 := B26.fz eb6 0
            have x1 := B26.fz eb6 1
            have x2 := B26.fz eb6 2
            have x3 := B26.fz eb6 3
            have x4 := B26.fz eb6 4
            have x5 := B26.fz eb6 5
            clear eb eb6
            go_wp2
            refine put_elim I4.out.b6 ?_
            intro w8 hb8 f8
            clear b0 b1 b2 b3 b4 b5 z0 z1 z2 z3 z4 z5 y0 y1 y2 y3 y4 y5 x0 x1 x2 x3 x4 x5
            have o1 := HO.out.h1
            have o2 := HO.out.h2
            have R8 := show RS p w8 r _ (d + 1) _ from ⟨I4.out.rs.gl.fr f8 (fun k hk e => by have := I4.out.rs.lo; omega), I4.out.rs.rd.fr f8 (by omega), I4.out.rs.lo⟩
            have X8 := f8.get I4.out.bx (by omega)
            have T8 := I4.out.tree.fr f8 (fun k hk e => by omega)
            refine leaves_cons (f := 98) (args := #[.pointer (some ⟨w.heap.size, 0, none⟩)]) (by simp) (by simp [go_sem]) ?_
            refine (nestLess p r w.heap.size _ d _ .returning w8 R8 hd (by omega) X8).mono ?_
            rintro e u' w9 ⟨rfl, rfl, R9, f9⟩
            refine ⟨_, ret26 rfl rfl (hb8.fr f9 (by omega)), ?_⟩
            rw [← HE0.out]
            exact ⟨_, _, rfl, (T8.fr f9 (fun k hk e => by omega)).mono (fun k hk _ => by omega), R9, (F4.out.call f8 (fun i hi => .inr (by omega))).trans f9⟩
          | none =>
            have hr := HR2.out
            rw [hRK3] at c2 I3 hr
            unfold errV at c2
            have HR3 := Lib.hid hr
            clear hr HR2
            have hl3 : RK.2.1.length ≤ 1000000000 := by have := hK.out.1; have := HI.out.2.1; omega
            have hll := HG.out.2.2
            go_upto_region 16 with (fail)
            apply items16 p d val HV kind r w.heap.size RK.2.1 RK.1 l kv' lv cs _ I3.out HO.out hl3 (by omega)
            intro x64 x65 x66 x67 x68 x69 x70 x71 x72 w4 lv' cs' hI4 hF4
            have I4 := Lib.hid hI4
            have F4 := Lib.hid (F3.out.call hF4 (fun i hi => hi.elim .inl .inr))
            clear hI4 hF4 I3 F3 cb c2 hl3 hll
            have cb := I4.out.cb
            have hvl' := hvl RK.2.1
            obtain ⟨VL, hVL⟩ : ∃ VL, val RK.2.1 = VL := ⟨_, rfl⟩
            have hr := HR3.out
            unfold roundV at hr
            simp only at hr
            rw [hVL] at I4 hvl' hr
            have HR4 := Lib.hid hr
            have HVL := Lib.hid hvl'
            clear hr HR3 hVL hvl'
            go_wp2_with fail
            refine (skip_r p r VL.2.1 (d + 1) VL.2.2 _ I4.out.rs).mono ?_
            rintro e w5 ⟨rfl, r5, f5⟩
            have I5 := Lib.hid (I4.out.read HO.out r5 f5)
            have F5 := Lib.hid (F4.out.trans f5)
            clear r5 f5 I4 F4 cb
            have cb := I5.out.cb
            have c2 := I5.out.rs.rd.c2
            have hr := HR4.out
            cases hVL3 : VL.2.2 with
            | some y =>
              rw [hVL3] at c2 I5 hr
              unfold errV at c2
              have HE1 := Lib.hid (show (emptyJ kind RK.1 (l ++ [VL.1]), skipB VL.2.1, some y) = FIN from hr)
              clear hr HR4
              obtain ⟨A1, n1, rfl⟩ := own_form I5.out.kr
              obtain ⟨A2, n2, rfl⟩ := own_form I5.out.lr
              rw [List.length_append, List.length_singleton] at I5
              have eb := I5.out.b
              have eb6 := I5.out.b6
              have b0 := B26.c0 eb
              have b1 := B26.c1 eb
              have b2 := B26.c2 eb
              have b3 := B26.c3 eb
              have b4 := B26.c4 eb
              have b5 := B26.c5 eb
              have z0 := B26.fz eb 0
              have z1 := B26.fz eb 1
              have z2 := B26.fz eb 2
              have z3 := B26.fz eb 3
              have z4 := B26.fz eb 4
              have z5 := B26.fz eb 5
              have y0 := B26.c0 eb6
              have y1 := B26.c1 eb6
              have y2 := B26.c2 eb6
              have y3 := B26.c3 eb6
              have y4 := B26.c4 eb6
              have y5 := B26.c5 eb6
              have x0 := B26.fz eb6 0
              have x1 := B26.fz eb6 1
              have x2 := B26.fz eb6 2
              have x3 := B26.fz eb6 3
              have x4 := B26.fz eb6 4
              have x5 := B26.fz eb6 5
              clear eb eb6
              go_wp2
              refine put_elim I5.out.b6 ?_
              intro w8 hb8 f8
              clear b0 b1 b2 b3 b4 b5 z0 z1 z2 z3 z4 z5 y0 y1 y2 y3 y4 y5 x0 x1 x2 x3 x4 x5
              have o1 := HO.out.h1
              have o2 := HO.out.h2
              have R8 := show RS p w8 r _ (d + 1) _ from ⟨I5.out.rs.gl.fr f8 (fun k hk e => by have := I5.out.rs.lo; omega), I5.out.rs.rd.fr f8 (by omega), I5.out.rs.lo⟩
              have X8 := f8.get I5.out.bx (by omega)
              have T8 := I5.out.tree.fr f8 (fun k hk e => by omega)
              refine leaves_cons (f := 98) (args := #[.pointer (some ⟨w.heap.size, 0, none⟩)]) (by simp) (by simp [go_sem]) ?_
              refine (nestLess p r w.heap.size _ d _ .returning w8 R8 hd (by omega) X8).mono ?_
              rintro e u' w9 ⟨rfl, rfl, R9, f9⟩
              refine ⟨_, ret26 rfl rfl (hb8.fr f9 (by omega)), ?_⟩
              rw [← HE1.out]
              exact ⟨_, _, rfl, (T8.fr f9 (fun k hk e => by omega)).mono (fun k hk _ => by omega), R9, (F5.out.call f8 (fun i hi => .inr (by omega))).trans f9⟩
            | none =>
              rw [hVL3] at c2 I5 hr
              unfold errV at c2
              simp only at hr
              have HR5 := Lib.hid hr
              clear hr HR4
              go_wp2_with fail
              refine (take_r p r (skipB VL.2.1) [cl] (d + 1) none _ I5.out.rs).mono ?_
              rintro e w6 ⟨rfl, r6, f6⟩
              cases hq2 : List.isPrefixOf [cl] (skipB VL.2.1) with
              | true =>
                rw [cutPre_yes hq2] at r6
                have I6 := Lib.hid (I5.out.read HO.out r6 f6)
                have F6 := Lib.hid (F5.out.trans f6)
                have hr := HR5.out
                rw [if_pos hq2] at hr
                have HE2 := Lib.hid (show (emptyJ kind RK.1 (l ++ [VL.1]), (skipB VL.2.1).drop [cl].length, none) = FIN from hr)
                clear r6 f6 hr HR5 hq2 cb c2 I5 F5
                obtain ⟨A1, n1, rfl⟩ := own_form I6.out.kr
                obtain ⟨A2, n2, rfl⟩ := own_form I6.out.lr
                rw [List.length_append, List.length_singleton] at I6
                have eb := I6.out.b
                have eb6 := I6.out.b6
                have b0 := B26.c0 eb
                have b1 := B26.c1 eb
                have b2 := B26.c2 eb
                have b3 := B26.c3 eb
                have b4 := B26.c4 eb
                have b5 := B26.c5 eb
                have z0 := B26.fz eb 0
                have z1 := B26.fz eb 1
                have z2 := B26.fz eb 2
                have z3 := B26.fz eb 3
                have z4 := B26.fz eb 4
                have z5 := B26.fz eb 5
                have y0 := B26.c0 eb6
                have y1 := B26.c1 eb6
                have y2 := B26.c2 eb6
                have y3 := B26.c3 eb6
                have y4 := B26.c4 eb6
                have y5 := B26.c5 eb6
                have x0 := B26.fz eb6 0
                have x1 := B26.fz eb6 1
                have x2 := B26.fz eb6 2
                have x3 := B26.fz eb6 3
                have x4 := B26.fz eb6 4
                have x5 := B26.fz eb6 5
                clear eb eb6
                go_wp2
                refine put_elim I6.out.b6 ?_
                intro w8 hb8 f8
                clear b0 b1 b2 b3 b4 b5 z0 z1 z2 z3 z4 z5 y0 y1 y2 y3 y4 y5 x0 x1 x2 x3 x4 x5
                have o1 := HO.out.h1
                have o2 := HO.out.h2
                have R8 := show RS p w8 r _ (d + 1) _ from ⟨I6.out.rs.gl.fr f8 (fun k hk e => by have := I6.out.rs.lo; omega), I6.out.rs.rd.fr f8 (by omega), I6.out.rs.lo⟩
                have X8 := f8.get I6.out.bx (by omega)
                have T8 := I6.out.tree.fr f8 (fun k hk e => by omega)
                refine leaves_cons (f := 98) (args := #[.pointer (some ⟨w.heap.size, 0, none⟩)]) (by simp) (by simp [go_sem]) ?_
                refine (nestLess p r w.heap.size _ d _ .returning w8 R8 hd (by omega) X8).mono ?_
                rintro e u' w9 ⟨rfl, rfl, R9, f9⟩
                refine ⟨_, ret26 rfl rfl (hb8.fr f9 (by omega)), ?_⟩
                rw [← HE2.out]
                exact ⟨_, _, rfl, (T8.fr f9 (fun k hk e => by omega)).mono (fun k hk _ => by omega), R9, (F6.out.call f8 (fun i hi => .inr (by omega))).trans f9⟩
              | false =>
                rw [cutPre_no hq2] at r6
                have I6 := Lib.hid (I5.out.read HO.out r6 f6)
                have F6 := Lib.hid (F5.out.trans f6)
                have hr := HR5.out
                rw [if_neg (by rw [hq2]; simp)] at hr
                have HR6 := Lib.hid hr
                clear r6 f6 hr HR5 hq2 cb c2 I5 F5
                have cb := I6.out.cb
                go_wp2_with fail
                refine (take_r p r (skipB VL.2.1) [44] (d + 1) none _ I6.out.rs).mono ?_
                rintro e w7 ⟨rfl, r7, f7⟩
                cases hq3 : List.isPrefixOf [44] (skipB VL.2.1) with
                | true =>
                  rw [cutPre_yes hq3] at r7
                  have I7 := Lib.hid (I6.out.read HO.out r7 f7)
                  have F7 := Lib.hid (F6.out.trans f7)
                  have hr := HR6.out
                  rw [if_pos hq3] at hr
                  have HR7 := Lib.hid hr
                  have hp3 := pre_pos hq3
                  clear r7 f7 hr HR6 hq3 cb I6 F6
                  go_wp2
                  go_roundg gm
                  case measure => exact Nat.lt_succ_self _
                  case rel =>
                    have h1 := skipB_len VL.2.1
                    have h2 := HVL.out
                    have h3 := hK.out
                    have h4 := HG.out
                    have h5 := HI.out.2.1
                    exact ⟨g, _, _, _, _, _, _, _, I7.out, F7.out, ⟨fun _ => ⟨by simp; omega, by omega, by simp; omega⟩, by omega⟩, by simp; omega, HR7.out⟩
                | false =>
                  rw [cutPre_no hq3] at r7
                  have I7 := Lib.hid (I6.out.read HO.out r7 f7)
                  have F7 := Lib.hid (F6.out.trans f7)
                  have hr := HR6.out
                  rw [if_neg (by rw [hq3]; simp)] at hr
                  have HR7 := Lib.hid hr
                  clear r7 f7 hr HR6 hq3 cb I6 F6
                  have cb := I7.out.cb
                  go_wp2_with fail
                  refine (fail_r p r (skipB VL.2.1) (d + 1) 150 none _ I7.out.rs).mono ?_
                  rintro e w8 ⟨rfl, r8, f8⟩
                  have I8 := Lib.hid (I7.out.read HO.out r8 f8)
                  have F8 := Lib.hid (F7.out.trans f8)
                  clear r8 f8 cb I7 F7
                  go_wp2
                  go_roundg gm
                  case measure => exact Nat.lt_succ_self _
                  case rel =>
                    have h1 := skipB_len VL.2.1
                    have h2 := HVL.out
                    have h3 := hK.out
                    have h4 := HG.out
                    have h5 := HI.out.2.1
                    exact ⟨g, _, _, _, _, _, _, _, I8.out, F8.out, ⟨(fun e => nomatch e), by omega⟩, by omega, by cases g <;> exact HR7.out⟩
end Go.Proofs.YtakgcaehkphepaaGreatDoor

/- (*json.reader).items where no more may nest; list, object. -/
namespace Go.Proofs.YtakgcaehkphepaaGreatDoor
open Go.RowKit
set_option linter.unusedVariables false
set_option linter.unusedSimpArgs false

set_option maxHeartbeats 4000000 in
set_option maxRecDepth 100000 in
theorem items_deep (p : Value) (kind : Int) (cl : UInt8) (r : Nat) (s : Bs) (w : World) (h : RS p w r s 64 none) :
    Calls Tryz.prog 76 #[.pointer (some ⟨r, 0, none⟩), .int .i64 kind, .string (bs [cl])] w fun e w' =>
      e = .returned (.agg #[.int .i64 kind, .bool false, .int .i64 0, .string ⟨#[]⟩, .slice none 0 0, .slice none 0 0]) ∧ RS p w' r s 64 (some 151) ∧ Fr (· = r) w w' := by
  have hr := h.rd.lt
  have R3 := ((h.alloc (.cells #[.pointer (some ⟨r, 0, none⟩)] 45 (0, 0))).alloc (.cells #[.int .i64 0, .bool false, .int .i64 0, .string ⟨#[]⟩, .slice none 0 0, .slice none 0 0] 26 (0, 0))).alloc (.cells #[.int .i64 kind, .bool false, .int .i64 0, .string ⟨#[]⟩, .slice none 0 0, .slice none 0 0] 26 (0, 0))
  have F3 : Fr (· = r) w (((w.alloc (.cells #[.pointer (some ⟨r, 0, none⟩)] 45 (0, 0))).alloc (.cells #[.int .i64 0, .bool false, .int .i64 0, .string ⟨#[]⟩, .slice none 0 0, .slice none 0 0] 26 (0, 0))).alloc (.cells #[.int .i64 kind, .bool false, .int .i64 0, .string ⟨#[]⟩, .slice none 0 0, .slice none 0 0] 26 (0, 0))) := (((Fr.refl _ _).alloc _).alloc _).alloc _
  have bx3 : (((w.alloc (.cells #[.pointer (some ⟨r, 0, none⟩)] 45 (0, 0))).alloc (.cells #[.int .i64 0, .bool false, .int .i64 0, .string ⟨#[]⟩, .slice none 0 0, .slice none 0 0] 26 (0, 0))).alloc (.cells #[.int .i64 kind, .bool false, .int .i64 0, .string ⟨#[]⟩, .slice none 0 0, .slice none 0 0] 26 (0, 0))).heap[w.heap.size]? = some (.cells #[.pointer (some ⟨r, 0, none⟩)] 45 (0, 0)) := alloc_old (alloc_old (alloc_new w _) _) _
  have b63 : B26 (((w.alloc (.cells #[.pointer (some ⟨r, 0, none⟩)] 45 (0, 0))).alloc (.cells #[.int .i64 0, .bool false, .int .i64 0, .string ⟨#[]⟩, .slice none 0 0, .slice none 0 0] 26 (0, 0))).alloc (.cells #[.int .i64 kind, .bool false, .int .i64 0, .string ⟨#[]⟩, .slice none 0 0, .slice none 0 0] 26 (0, 0))) (w.heap.size + 1) (.int .i64 0) (.bool false) (.int .i64 0) (.string ⟨#[]⟩) (.slice none 0 0) (.slice none 0 0) := alloc_old (alloc_at _ (by simp)) _
  have b3 : B26 (((w.alloc (.cells #[.pointer (some ⟨r, 0, none⟩)] 45 (0, 0))).alloc (.cells #[.int .i64 0, .bool false, .int .i64 0, .string ⟨#[]⟩, .slice none 0 0, .slice none 0 0] 26 (0, 0))).alloc (.cells #[.int .i64 kind, .bool false, .int .i64 0, .string ⟨#[]⟩, .slice none 0 0, .slice none 0 0] 26 (0, 0))) (w.heap.size + 1 + 1) (.int .i64 kind) (.bool false) (.int .i64 0) (.string ⟨#[]⟩) (.slice none 0 0) (.slice none 0 0) := alloc_at _ (by simp)
  have HR3 := Lib.hid R3
  have HF3 := Lib.hid F3
  have HX3 := Lib.hid bx3
  have HB63 := Lib.hid b63
  have HB3 := Lib.hid b3
  clear h R3 F3 bx3 b63 b3
  go_enter_defers Tryz.func76, Tryz.ntmps76
  go_upto_region 2 with (fail)
  obtain ⟨w3, hw3⟩ : ∃ w3, (((w.alloc (.cells #[.pointer (some ⟨r, 0, none⟩)] 45)).alloc (.cells #[.int .i64 0, .bool false, .int .i64 0, .string ⟨#[]⟩, .slice none 0 0, .slice none 0 0] 26)).alloc (.cells #[.int .i64 kind, .bool false, .int .i64 0, .string ⟨#[]⟩, .slice none 0 0, .slice none 0 0] 26)) = w3 := ⟨_, rfl⟩
  rw [hw3] at HR3 HF3 HX3 HB63 HB3 ⊢
  clear hw3
  have cb := cell_of HX3.out 0
  have c1 := HR3.out.rd.c1
  go_wp2_with fail
  refine (fail_r p r s 64 151 none _ HR3.out).mono ?_
  rintro e w4 ⟨rfl, R4, f4⟩
  have HR4 := Lib.hid R4
  have HF4 := Lib.hid (HF3.out.trans f4)
  have B64 := Lib.hid (HB63.out.fr f4 (by omega))
  have eb := HB3.out.fr f4 (by omega)
  have eb6 := B64.out
  have b0 := eb.c0
  have b1 := eb.c1
  have b2 := eb.c2
  have b3 := eb.c3
  have b4 := eb.c4
  have b5 := eb.c5
  have y0 := eb6.c0
  have y1 := eb6.c1
  have y2 := eb6.c2
  have y3 := eb6.c3
  have y4 := eb6.c4
  have y5 := eb6.c5
  have x0 := eb6.fz 0
  have x1 := eb6.fz 1
  have x2 := eb6.fz 2
  have x3 := eb6.fz 3
  have x4 := eb6.fz 4
  have x5 := eb6.fz 5
  clear R4 f4 eb eb6 cb c1
  go_wp2
  refine put_elim B64.out ?_
  intro w8 hb8 f8
  clear b0 b1 b2 b3 b4 b5 y0 y1 y2 y3 y4 y5 x0 x1 x2 x3 x4 x5
  refine ⟨_, ret26 rfl rfl hb8, ?_⟩
  have hlo := HR4.out.lo
  exact ⟨rfl, ⟨HR4.out.gl.fr f8 (fun k hk e => by omega), HR4.out.rd.fr f8 (by omega), hlo⟩, HF4.out.call f8 (fun i hi => .inr (by omega))⟩

section
variable {p : Value} {d : Int} {val : Bs → J × Bs × Option Int} {kind : Int} {cl : UInt8}
/-- What a call of items does. -/
def ItemsOk (p : Value) (d : Int) (kind : Int) (cl : UInt8) (f : Bs → J × Bs × Option Int) : Prop :=
  ∀ (r : Nat) (s : Bs) (w : World), RS p w r s d none → s.length ≤ 1000000000 → 0 < s.length → Calls Tryz.prog 76 #[.pointer (some ⟨r, 0, none⟩), .int .i64 kind, .string (bs [cl])] w fun e w' =>
    ∃ kv lv, e = .returned (jVal (f s).1 kv lv) ∧ JAt w' (fun k => w.heap.size ≤ k) (f s).1 kv lv ∧ RS p w' r (f s).2.1 d (f s).2.2 ∧ Fr (· = r) w w'
end
set_option maxHeartbeats 1000000 in
set_option maxRecDepth 100000 in
theorem list_c (p : Value) (d : Int) (f : Bs → J × Bs × Option Int) (H : ItemsOk p d 4 93 f) (r : Nat) (s : Bs) (w : World) (h : RS p w r s d none) (hN : s.length ≤ 1000000000) (h0 : 0 < s.length) :
    Calls Tryz.prog 46 #[.pointer (some ⟨r, 0, none⟩)] w fun e w' =>
      ∃ kv lv, e = .returned (jVal (f s).1 kv lv) ∧ JAt w' (fun k => w.heap.size ≤ k) (f s).1 kv lv ∧ RS p w' r (f s).2.1 d (f s).2.2 ∧ Fr (· = r) w w' := by
  have HH := Lib.hid H
  have HR1 := Lib.hid (h.alloc (.cells #[.int .i64 0, .bool false, .int .i64 0, .string ⟨#[]⟩, .slice none 0 0, .slice none 0 0] 26 (0, 0)))
  have HB := Lib.hid (B26.new w (.int .i64 0) (.bool false) (.int .i64 0) (.string ⟨#[]⟩) (.slice none 0 0) (.slice none 0 0))
  have hr := h.rd.lt
  have hlo := h.lo
  clear H h
  obtain ⟨FS, hFS⟩ : ∃ FS, f s = FS := ⟨_, rfl⟩
  have HFS := Lib.hid hFS
  rw [hFS]
  clear hFS
  go_enter Tryz.func46, Tryz.ntmps46
  go_wp2_with fail
  refine (HH.out r s _ HR1.out hN h0).mono ?_
  rw [HFS.out]
  rintro e w2 ⟨kv, lv, rfl, T2, R2, f2⟩
  obtain ⟨jA, jn, jc, jA', jn', jc', rfl, rfl⟩ := T2.form
  have hb := HB.out.fr f2 (by omega)
  have b0 := hb.c0
  have b1 := hb.c1
  have b2 := hb.c2
  have b3 := hb.c3
  have b4 := hb.c4
  have b5 := hb.c5
  have z0 := hb.fz 0
  have z1 := hb.fz 1
  have z2 := hb.fz 2
  have z3 := hb.fz 3
  have z4 := hb.fz 4
  have z5 := hb.fz 5
  have HT := Lib.hid T2
  have HR2 := Lib.hid R2
  have HF2 := Lib.hid f2
  have HB2 := Lib.hid hb
  clear T2 R2 f2 hb
  unfold jVal
  go_wp2
  refine put_elim HB2.out ?_
  intro w3 hb3 f3
  refine bodyPost_ret (ret26 rfl rfl hb3) rfl ?_
  exact ⟨_, _, rfl, (HT.out.fr f3 (fun k hk e => by simp at hk; omega)).mono (fun k hk _ => by simp at hk; omega), ⟨HR2.out.gl.fr f3 (fun k hk e => by omega), HR2.out.rd.fr f3 (by omega), hlo⟩, (((Fr.refl (· = r) w).alloc _).trans HF2.out).call f3 (fun i hi => .inr (by omega))⟩
set_option maxHeartbeats 1000000 in
set_option maxRecDepth 100000 in
theorem object_c (p : Value) (d : Int) (f : Bs → J × Bs × Option Int) (H : ItemsOk p d 5 125 f) (r : Nat) (s : Bs) (w : World) (h : RS p w r s d none) (hN : s.length ≤ 1000000000) (h0 : 0 < s.length) :
    Calls Tryz.prog 47 #[.pointer (some ⟨r, 0, none⟩)] w fun e w' =>
      ∃ kv lv, e = .returned (jVal (f s).1 kv lv) ∧ JAt w' (fun k => w.heap.size ≤ k) (f s).1 kv lv ∧ RS p w' r (f s).2.1 d (f s).2.2 ∧ Fr (· = r) w w' := by
  have HH := Lib.hid H
  have HR1 := Lib.hid (h.alloc (.cells #[.int .i64 0, .bool false, .int .i64 0, .string ⟨#[]⟩, .slice none 0 0, .slice none 0 0] 26 (0, 0)))
  have HB := Lib.hid (B26.new w (.int .i64 0) (.bool false) (.int .i64 0) (.string ⟨#[]⟩) (.slice none 0 0) (.slice none 0 0))
  have hr := h.rd.lt
  have hlo := h.lo
  clear H h
  obtain ⟨FS, hFS⟩ : ∃ FS, f s = FS := ⟨_, rfl⟩
  have HFS := Lib.hid hFS
  rw [hFS]
  clear hFS
  go_enter Tryz.func47, Tryz.ntmps47
  go_wp2_with fail
  refine (HH.out r s _ HR1.out hN h0).mono ?_
  rw [HFS.out]
  rintro e w2 ⟨kv, lv, rfl, T2, R2, f2⟩
  obtain ⟨jA, jn, jc, jA', jn', jc', rfl, rfl⟩ := T2.form
  have hb := HB.out.fr f2 (by omega)
  have b0 := hb.c0
  have b1 := hb.c1
  have b2 := hb.c2
  have b3 := hb.c3
  have b4 := hb.c4
  have b5 := hb.c5
  have z0 := hb.fz 0
  have z1 := hb.fz 1
  have z2 := hb.fz 2
  have z3 := hb.fz 3
  have z4 := hb.fz 4
  have z5 := hb.fz 5
  have HT := Lib.hid T2
  have HR2 := Lib.hid R2
  have HF2 := Lib.hid f2
  have HB2 := Lib.hid hb
  clear T2 R2 f2 hb
  unfold jVal
  go_wp2
  refine put_elim HB2.out ?_
  intro w3 hb3 f3
  refine bodyPost_ret (ret26 rfl rfl hb3) rfl ?_
  exact ⟨_, _, rfl, (HT.out.fr f3 (fun k hk e => by simp at hk; omega)).mono (fun k hk _ => by simp at hk; omega), ⟨HR2.out.gl.fr f3 (fun k hk e => by omega), HR2.out.rd.fr f3 (by omega), hlo⟩, (((Fr.refl (· = r) w).alloc _).trans HF2.out).call f3 (fun i hi => .inr (by omega))⟩
end Go.Proofs.YtakgcaehkphepaaGreatDoor
