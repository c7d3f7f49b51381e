/- (*json.reader).digit. -/
import Derived.Test.YtakgcaehkphepaaGreatDoorJv
import Derived.Deep.QuietTactic
namespace Go.Proofs.YtakgcaehkphepaaGreatDoor
open Go.RowKit
set_option linter.unusedVariables false
set_option linter.unusedSimpArgs false

def numI (s : Bs) : Int := match Lib.parseIntB 64 s with | .ok v => v | .«syntax» => 0 | .range => Lib.intSat 64 s
def okI (s : Bs) : Bool := match Lib.parseIntB 64 s with | .ok _ => true | _ => false
theorem parseInt_c (p : Value) (s : Bs) (w : World) (h : Gl p w) (hl : s.length ≤ 281474976710656) :
    Calls Tryz.prog 80 #[.string (bs s), .int .i64 10, .int .i64 64] w fun e w' => ∃ ev, e = .returned (.tuple #[.int .i64 (numI s), ev]) ∧ (if okI s then ev = .nilIface else ∃ N, ev = .iface 169 (.pointer (some ⟨N, 0, none⟩))) ∧ Fr none' w w' := by
  have hs : (bs s).size ≤ 281474976710656 := by rw [bs_size]; exact hl
  have hd : (bs s).data.toList = s := bs_data s
  unfold numI okI
  cases hp : Lib.parseIntB 64 s with
  | ok v =>
    refine (Tryz.strconv_ParseInt_10_at64_ok (bs s) (by omega) v (by rw [hd]; exact hp) w).mono ?_
    rintro e w' ⟨rfl, hw⟩
    refine ⟨_, rfl, rfl, ?_⟩
    rcases hw with rfl | ⟨t, rfl⟩
    · exact Fr.refl _ _
    · exact bytesWorld_fr _ _ _
  | «syntax» =>
    obtain ⟨t, q, hv⟩ := h.sy
    refine (Tryz.strconv_ParseInt_10_at64_syntax (bs s) hs (by rw [hd]; exact hp) _ w hv (.inr ⟨t, q, rfl⟩)).mono ?_
    rintro e w' ⟨N, rfl, _, _, hb⟩
    exact ⟨_, rfl, ⟨N, rfl⟩, Fr.of_below hb _⟩
  | range =>
    obtain ⟨t, q, hv⟩ := h.rg
    refine (Tryz.strconv_ParseInt_10_at64_range (bs s) hs (by rw [hd]; exact hp) _ w hv (.inr ⟨t, q, rfl⟩)).mono ?_
    rintro e w' ⟨N, rfl, _, _, hb⟩
    rw [hd]
    exact ⟨_, rfl, ⟨N, rfl⟩, Fr.of_below hb _⟩

theorem world_elim {G : World → Prop} {w : World} (k : ∀ w', w = w' → G w') : G w := k _ rfl

def digits10 : Bs := [48, 49, 50, 51, 52, 53, 54, 55, 56, 57]
def trimD (s : Bs) : Bs := Lib.trimLeftS s digits10
theorem trimD_c (s : Bs) (w : World) : Calls Tryz.prog 45 #[.string (bs s), .string ⟨#[48, 49, 50, 51, 52, 53, 54, 55, 56, 57]⟩] w fun e w' => e = .returned (.string (bs (trimD s))) ∧ Fr none' w w' := by
  have hd : (bs s).data.toList = s := bs_data s
  refine (Tryz.strings_TrimLeft (bs s) ⟨#[48, 49, 50, 51, 52, 53, 54, 55, 56, 57]⟩ w (by decide) ?_).mono ?_
  · intro j b hb
    have : b ∈ digits10 := List.mem_of_getElem? hb
    simp only [digits10, List.mem_cons, List.not_mem_nil, or_false] at this
    rcases this with h | h | h | h | h | h | h | h | h | h <;> subst h <;> decide
  · rintro e w' ⟨rfl, hb⟩
    rw [hd]
    exact ⟨rfl, Fr.of_below hb _⟩
theorem trimD_len (s : Bs) : (trimD s).length ≤ s.length := (List.dropWhile_suffix _).length_le
theorem cutPre_len (s q : Bs) : (cutPre s q).length ≤ s.length := by
  unfold cutPre
  split
  · simp
  · exact Nat.le_refl _

/-- How many digits stand behind the sign. -/
def digN (s : Bs) : Nat := (cutPre s [45]).length - (trimD (cutPre s [45])).length
def digText (s : Bs) : Bs := s.take (s.length - (cutPre s [45]).length + digN s)
/-- More than one digit, of which the first is '0'. -/
def lead0 : Bs → Bool
  | a :: _ :: _ => decide (a.toNat = 48)
  | _ => false
def digBad (s : Bs) : Bool := !okI (digText s) || lead0 ((cutPre s [45]).take (digN s))

set_option maxHeartbeats 4000000 in
set_option maxRecDepth 100000 in
theorem digit_c (p : Value) (r : Nat) (s : Bs) (d : Int) (o : Option Int) (w : World) (h : RS p w r s d o) (hN : s.length ≤ 1073741824) :
    Calls Tryz.prog 51 #[.pointer (some ⟨r, 0, none⟩)] w fun e w' => e = .returned (jv 2 false (numI (digText s)) []) ∧
      RS p w' r (s.drop (digText s).length) d (if digBad s then failE o 150 else o) ∧ Fr (· = r) w w' := by
  obtain ⟨R, hR⟩ : ∃ R, cutPre s [45] = R := ⟨_, rfl⟩
  obtain ⟨T, hT⟩ : ∃ T, trimD R = T := ⟨_, rfl⟩
  have hRl : R.length ≤ s.length := hR ▸ cutPre_len s [45]
  have hTl : T.length ≤ R.length := hT ▸ trimD_len R
  have hn : digN s = R.length - T.length := by unfold digN; rw [hR, hT]
  obtain ⟨X, hX⟩ : ∃ X, digText s = X := ⟨_, rfl⟩
  have hXl : X.length = s.length - R.length + (R.length - T.length) := by
    rw [← hX]; unfold digText; rw [hn, hR, List.length_take]; omega
  have HB := Lib.hid (B26.new w (.int .i64 0) (.bool false) (.int .i64 0) (.string ⟨#[]⟩) (.slice none 0 0) (.slice none 0 0))
  have HF := Lib.hid ((Fr.refl (· = r) w).alloc (.cells #[.int .i64 0, .bool false, .int .i64 0, .string ⟨#[]⟩, .slice none 0 0, .slice none 0 0] 26 (0, 0)))
  have hr : r < w.heap.size := h.rd.lt
  have HR1 := Lib.hid (h.alloc (.cells #[.int .i64 0, .bool false, .int .i64 0, .string ⟨#[]⟩, .slice none 0 0, .slice none 0 0] 26 (0, 0)))
  have hc := HR1.out.rd.c0
  have HX := Lib.hid hX
  have HRR := Lib.hid hR
  have HTT := Lib.hid hT
  have HNN := Lib.hid hn
  have hxs : (bs s).extract 0 X.length = bs X := by rw [bs_extract, ← hX]; unfold digText; rw [List.length_take, List.drop_zero]; congr 1; rw [List.take_eq_take_iff]; omega
  have hxd : (bs R).extract 0 (R.length - T.length) = bs (R.take (R.length - T.length)) := by rw [bs_extract]; rfl
  have s1 : (bs s).size = s.length := bs_size s
  have s2 : (bs R).size = R.length := bs_size R
  have s3 : (bs T).size = T.length := bs_size T
  obtain ⟨NV, hNV⟩ : ∃ NV, numI X = NV := ⟨_, rfl⟩
  obtain ⟨BAD, hBAD⟩ : ∃ BAD, digBad s = BAD := ⟨_, rfl⟩
  have hbd : BAD = (!okI X || lead0 (R.take (R.length - T.length))) := by rw [← hBAD]; unfold digBad; rw [hX, hR, hn]
  rw [hX, hNV, hBAD]
  have HNV := Lib.hid hNV
  have HBD := Lib.hid hbd
  clear h hX hR hT hn hNV hBAD hbd
  go_enter Tryz.func51, Tryz.ntmps51
  go_wp2_with (first
    | (go_at_call 79; refine (trimPrefix_c s [45] _).mono ?_; rw [HRR.out]; rintro e w1 ⟨rfl, rfl⟩)
    | (go_at_call 45; refine (trimD_c R _).mono ?_; rw [HTT.out]; rintro e w2 ⟨rfl, f2⟩))
  have HR2 := Lib.hid (HR1.out.fr0 f2)
  have HB2 := Lib.hid (HB.out.fr f2 id)
  have HF2 := Lib.hid (HF.out.trans (f2.mono (m' := (· = r)) (fun _ h => h.elim)))
  have hc2 := HR2.out.rd.c0
  clear f2 hc HR1 HB HF
  go_quiet (fail)
  go_wp2_with (fail)
  have hxs' : (bs s).extract 0 (s.length - R.length + (R.length - T.length)) = bs X := by rw [← hXl]; exact hxs
  rw [hxs']
  refine (parseInt_c p X _ (HR2.out.gl.fr0 ((Fr.refl _ _).drewN nq)) (by omega)).mono ?_
  rintro e w4 ⟨ev, rfl, hev, f4⟩
  have HR4 := Lib.hid ((HR2.out.fr0 ((Fr.refl _ _).drewN nq)).fr0 f4)
  have HB4 := Lib.hid ((show B26 (w2.drewN nq) _ _ _ _ _ _ _ from HB2.out.fr (m := none') ((Fr.refl _ _).drewN nq) id).fr f4 id)
  have HF4 := Lib.hid ((HF2.out.drewN nq).trans (f4.mono (m' := (· = r)) (fun _ h => h.elim)))
  have s4 : (bs X).size = X.length := bs_size X
  have s5 : X.length ≤ s.length := by omega
  have hsd : (bs s).extract X.length s.length = bs (s.drop X.length) := by rw [bs_extract]; congr 1; rw [List.take_of_length_le (Nat.le_refl _)]
  rw [HNV.out]
  have hbd := HBD.out
  obtain ⟨D, hD⟩ : ∃ D, R.take (R.length - T.length) = D := ⟨_, rfl⟩
  rw [hD] at hbd ⊢
  clear hc2 f4 HR2 HB2 HF2 HX HRR HTT HNN hxs hxd hxs' hRl hTl hXl hD s2 s3
  cases hok : okI X with
  | false =>
    rw [hok] at hev hbd
    obtain ⟨N, rfl⟩ := hev
    obtain rfl : BAD = true := by rw [hbd]; rfl
    clear hbd hok
    go_wp2_with (fail)
    refine (fail_r p r s d 150 o _ HR4.out).mono ?_
    rintro e w5 ⟨rfl, r5, f5⟩
    have HR5 := Lib.hid r5
    have HF5 := Lib.hid (HF4.out.trans f5)
    have HB5 := Lib.hid (HB4.out.fr f5 (by omega))
    clear r5 f5
    have c5 := HR5.out.rd.c0
    have z5 := HR5.out.rd.fz 0
    go_upto_region 9 with (fail)
    have R6 := Lib.hid (HR5.out.next (HR5.out.rd.set0 (s.drop X.length)) (Fr.set' r 0 _ rfl))
    have F6 := Lib.hid (HF5.out.trans (Fr.set' (m := (· = r)) r 0 (.string (bs (s.drop X.length))) rfl))
    have B6 := Lib.hid (HB5.out.fr (Fr.set' (m := (· = r)) r 0 (.string (bs (s.drop X.length))) rfl) (by omega))
    obtain ⟨w6, hw6⟩ : ∃ w6, w5.setCell ⟨r, 0, none⟩ (.string (bs (s.drop X.length))) = w6 := ⟨_, rfl⟩
    rw [hw6] at R6 F6 B6 ⊢
    clear hw6
    have hb := B6.out
    have b0 := B26.c0 hb
    have b1 := B26.c1 hb
    have b2 := B26.c2 hb
    have b3 := B26.c3 hb
    have b4 := B26.c4 hb
    have b5 := B26.c5 hb
    have z0 := B26.fz hb 0
    have z1 := B26.fz hb 1
    have z2 := B26.fz hb 2
    have z3 := B26.fz hb 3
    have z4 := B26.fz hb 4
    have z5 := B26.fz hb 5
    go_wp2
    refine put_elim B6.out ?_
    intro w7 hb7 f7
    clear b0 b1 b2 b3 b4 b5 z0 z1 z2 z3 z4 z5
    refine bodyPost_ret (ret26 rfl rfl hb7) rfl ?_
    have hlo := R6.out.lo
    refine ⟨rfl, ⟨R6.out.gl.fr f7 (fun k hk e => by have := R6.out.lo; omega), R6.out.rd.fr f7 (by omega), R6.out.lo⟩, F6.out.call f7 (fun i hi => .inr (by omega))⟩
  | true =>
    rw [hok] at hev hbd
    obtain rfl := hev
    clear hok
    rcases D with _ | ⟨a, _ | ⟨b, l⟩⟩
    · obtain rfl : BAD = false := by rw [hbd]; rfl
      clear hbd
      have q0 : (bs ([] : Bs)).size = 0 := rfl
      have c5 := HR4.out.rd.c0
      have z5 := HR4.out.rd.fz 0
      go_upto_region 9 with (fail)
      have R6 := Lib.hid (HR4.out.next (HR4.out.rd.set0 (s.drop X.length)) (Fr.set' r 0 _ rfl))
      have F6 := Lib.hid (HF4.out.trans (Fr.set' (m := (· = r)) r 0 (.string (bs (s.drop X.length))) rfl))
      have B6 := Lib.hid (HB4.out.fr (Fr.set' (m := (· = r)) r 0 (.string (bs (s.drop X.length))) rfl) (by omega))
      obtain ⟨w6, hw6⟩ : ∃ w6, w4.setCell ⟨r, 0, none⟩ (.string (bs (s.drop X.length))) = w6 := ⟨_, rfl⟩
      rw [hw6] at R6 F6 B6 ⊢
      clear hw6
      have hb := B6.out
      have b0 := B26.c0 hb
      have b1 := B26.c1 hb
      have b2 := B26.c2 hb
      have b3 := B26.c3 hb
      have b4 := B26.c4 hb
      have b5 := B26.c5 hb
      have z0 := B26.fz hb 0
      have z1 := B26.fz hb 1
      have z2 := B26.fz hb 2
      have z3 := B26.fz hb 3
      have z4 := B26.fz hb 4
      have z5 := B26.fz hb 5
      go_wp2
      refine put_elim B6.out ?_
      intro w7 hb7 f7
      clear b0 b1 b2 b3 b4 b5 z0 z1 z2 z3 z4 z5
      refine bodyPost_ret (ret26 rfl rfl hb7) rfl ?_
      have hlo := R6.out.lo
      refine ⟨rfl, ⟨R6.out.gl.fr f7 (fun k hk e => by have := R6.out.lo; omega), R6.out.rd.fr f7 (by omega), R6.out.lo⟩, F6.out.call f7 (fun i hi => .inr (by omega))⟩
    · obtain rfl : BAD = false := by rw [hbd]; rfl
      clear hbd
      have q0 : (bs [a]).size = 1 := rfl
      have c5 := HR4.out.rd.c0
      have z5 := HR4.out.rd.fz 0
      go_upto_region 9 with (fail)
      have R6 := Lib.hid (HR4.out.next (HR4.out.rd.set0 (s.drop X.length)) (Fr.set' r 0 _ rfl))
      have F6 := Lib.hid (HF4.out.trans (Fr.set' (m := (· = r)) r 0 (.string (bs (s.drop X.length))) rfl))
      have B6 := Lib.hid (HB4.out.fr (Fr.set' (m := (· = r)) r 0 (.string (bs (s.drop X.length))) rfl) (by omega))
      obtain ⟨w6, hw6⟩ : ∃ w6, w4.setCell ⟨r, 0, none⟩ (.string (bs (s.drop X.length))) = w6 := ⟨_, rfl⟩
      rw [hw6] at R6 F6 B6 ⊢
      clear hw6
      have hb := B6.out
      have b0 := B26.c0 hb
      have b1 := B26.c1 hb
      have b2 := B26.c2 hb
      have b3 := B26.c3 hb
      have b4 := B26.c4 hb
      have b5 := B26.c5 hb
      have z0 := B26.fz hb 0
      have z1 := B26.fz hb 1
      have z2 := B26.fz hb 2
      have z3 := B26.fz hb 3
      have z4 := B26.fz hb 4
      have z5 := B26.fz hb 5
      go_wp2
      refine put_elim B6.out ?_
      intro w7 hb7 f7
      clear b0 b1 b2 b3 b4 b5 z0 z1 z2 z3 z4 z5
      refine bodyPost_ret (ret26 rfl rfl hb7) rfl ?_
      have hlo := R6.out.lo
      refine ⟨rfl, ⟨R6.out.gl.fr f7 (fun k hk e => by have := R6.out.lo; omega), R6.out.rd.fr f7 (by omega), R6.out.lo⟩, F6.out.call f7 (fun i hi => .inr (by omega))⟩
    · have q0 : (bs (a :: b :: l)).size = l.length + 2 := by rw [bs_size]; rfl
      have q1 : (bs (a :: b :: l))[0]'(by omega) = a := rfl
      by_cases ha : a.toNat = 48
      · obtain rfl : BAD = true := by rw [hbd]; simp [lead0, ha]
        clear hbd
        go_wp2_with (fail)
        refine (fail_r p r s d 150 o _ HR4.out).mono ?_
        rintro e w5 ⟨rfl, r5, f5⟩
        have HR5 := Lib.hid r5
        have HF5 := Lib.hid (HF4.out.trans f5)
        have HB5 := Lib.hid (HB4.out.fr f5 (by omega))
        clear r5 f5
        have c5 := HR5.out.rd.c0
        have z5 := HR5.out.rd.fz 0
        go_upto_region 9 with (fail)
        have R6 := Lib.hid (HR5.out.next (HR5.out.rd.set0 (s.drop X.length)) (Fr.set' r 0 _ rfl))
        have F6 := Lib.hid (HF5.out.trans (Fr.set' (m := (· = r)) r 0 (.string (bs (s.drop X.length))) rfl))
        have B6 := Lib.hid (HB5.out.fr (Fr.set' (m := (· = r)) r 0 (.string (bs (s.drop X.length))) rfl) (by omega))
        obtain ⟨w6, hw6⟩ : ∃ w6, w5.setCell ⟨r, 0, none⟩ (.string (bs (s.drop X.length))) = w6 := ⟨_, rfl⟩
        rw [hw6] at R6 F6 B6 ⊢
        clear hw6
        have hb := B6.out
        have b0 := B26.c0 hb
        have b1 := B26.c1 hb
        have b2 := B26.c2 hb
        have b3 := B26.c3 hb
        have b4 := B26.c4 hb
        have b5 := B26.c5 hb
        have z0 := B26.fz hb 0
        have z1 := B26.fz hb 1
        have z2 := B26.fz hb 2
        have z3 := B26.fz hb 3
        have z4 := B26.fz hb 4
        have z5 := B26.fz hb 5
        go_wp2
        refine put_elim B6.out ?_
        intro w7 hb7 f7
        clear b0 b1 b2 b3 b4 b5 z0 z1 z2 z3 z4 z5
        refine bodyPost_ret (ret26 rfl rfl hb7) rfl ?_
        have hlo := R6.out.lo
        refine ⟨rfl, ⟨R6.out.gl.fr f7 (fun k hk e => by have := R6.out.lo; omega), R6.out.rd.fr f7 (by omega), R6.out.lo⟩, F6.out.call f7 (fun i hi => .inr (by omega))⟩
      · obtain rfl : BAD = false := by rw [hbd]; simp [lead0, ha]
        clear hbd
        have c5 := HR4.out.rd.c0
        have z5 := HR4.out.rd.fz 0
        go_upto_region 9 with (fail)
        have R6 := Lib.hid (HR4.out.next (HR4.out.rd.set0 (s.drop X.length)) (Fr.set' r 0 _ rfl))
        have F6 := Lib.hid (HF4.out.trans (Fr.set' (m := (· = r)) r 0 (.string (bs (s.drop X.length))) rfl))
        have B6 := Lib.hid (HB4.out.fr (Fr.set' (m := (· = r)) r 0 (.string (bs (s.drop X.length))) rfl) (by omega))
        obtain ⟨w6, hw6⟩ : ∃ w6, w4.setCell ⟨r, 0, none⟩ (.string (bs (s.drop X.length))) = w6 := ⟨_, rfl⟩
        rw [hw6] at R6 F6 B6 ⊢
        clear hw6
        have hb := B6.out
        have b0 := B26.c0 hb
        have b1 := B26.c1 hb
        have b2 := B26.c2 hb
        have b3 := B26.c3 hb
        have b4 := B26.c4 hb
        have b5 := B26.c5 hb
        have z0 := B26.fz hb 0
        have z1 := B26.fz hb 1
        have z2 := B26.fz hb 2
        have z3 := B26.fz hb 3
        have z4 := B26.fz hb 4
        have z5 := B26.fz hb 5
        go_wp2
        refine put_elim B6.out ?_
        intro w7 hb7 f7
        clear b0 b1 b2 b3 b4 b5 z0 z1 z2 z3 z4 z5
        refine bodyPost_ret (ret26 rfl rfl hb7) rfl ?_
        have hlo := R6.out.lo
        refine ⟨rfl, ⟨R6.out.gl.fr f7 (fun k hk e => by have := R6.out.lo; omega), R6.out.rd.fr f7 (by omega), R6.out.lo⟩, F6.out.call f7 (fun i hi => .inr (by omega))⟩

end Go.Proofs.YtakgcaehkphepaaGreatDoor
