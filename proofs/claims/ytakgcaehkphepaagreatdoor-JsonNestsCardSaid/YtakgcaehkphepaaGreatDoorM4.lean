/- json.isRight, json.Right. -/
import Derived.Test.YtakgcaehkphepaaGreatDoorM3
import Derived.Deep.DeepCutAuto
namespace Go.Proofs.YtakgcaehkphepaaGreatDoor
open Go.RowKit
set_option linter.unusedVariables false
set_option linter.unusedSimpArgs false

/-- The value of 'is', behind the switch. -/
def isVal (j : J) (m : Int) : Bool :=
  if j.kind = 0 then plainB j && bareB j
  else if j.kind = 1 then plainB j && decide (j.n = 0) && decide (j.s = [])
  else if j.kind = 2 then plainB j && !j.yes && decide (j.s = [])
  else if j.kind = 3 then plainB j && !j.yes && decide (j.n = 0) && Lib.validD j.s
  else if j.kind = 4 then bareB j && decide (j.keys.length = 0) && decide (0 < m)
  else if j.kind = 5 then bareB j && decide (j.keys.length = j.l.length) && keysB [] j.keys && decide (0 < m)
  else false
theorem isVal_most (j : J) (m : Int) (h : isVal j m = true) : 0 < m ∨ j.l = [] := by
  unfold isVal plainB at h
  repeat' split at h
  all_goals simp at h
  all_goals first | (right; exact h.1.1) | (right; exact h.1.1.1) | (right; exact h.1.1.1.1) | (left; exact h.2)
/-- The same, out of its parts. -/
def isV (kind n m : Int) (yes : Bool) (s : Bs) (keys : List Bs) (nk nl : Nat) (PB BB : Bool) : Bool :=
  if kind = 0 then PB && BB
  else if kind = 1 then PB && decide (n = 0) && decide (s = [])
  else if kind = 2 then PB && !yes && decide (s = [])
  else if kind = 3 then PB && !yes && decide (n = 0) && Lib.validD s
  else if kind = 4 then BB && decide (nk = 0) && decide (0 < m)
  else if kind = 5 then BB && decide (nk = nl) && keysB [] keys && decide (0 < m)
  else false
theorem isVal_V (kind : Int) (yes : Bool) (n : Int) (s : Bs) (keys : List Bs) (l : List J) (m : Int) : isVal (.mk kind yes n s keys l) m = isV kind n m yes s keys keys.length l.length (decide (l.length = 0) && decide (keys.length = 0)) (!yes && decide (n = 0) && decide (s = [])) := rfl
set_option maxHeartbeats 8000000 in
set_option maxRecDepth 100000 in
theorem isRight_c (p : Value) (m : Int) (hm : 0 ≤ m) (hm' : m ≤ 100) (f : J → Bool) (H : 0 < m → RightOk p (m - 1) f) (ok : Nat → Prop) (j : J) (kv lv : Value) (w : World) (g : Gl p w) (hj : JAt w ok j kv lv) (hz : JSz 1000000000 j) :
    Calls Tryz.prog 41 #[jVal j kv lv, .int .i64 m] w fun e w' => e = .returned (.bool (isVal j m && j.l.all f)) ∧ Fr none' w w' := by
  obtain ⟨kind, yes, n, s, keys, l⟩ := j
  obtain ⟨hs, hk, hkk, hl, hx⟩ := hz
  have hst := hj.strs
  have hit := hj.items
  simp only [J.keys, J.l] at hst hit
  have hkv : ∃ A c, kv = .slice A keys.length c := by rcases hst with ⟨rfl, rfl⟩ | ⟨g, cap, rfl, _⟩ <;> exact ⟨_, _, rfl⟩
  have hlv : ∃ A c, lv = .slice A l.length c := by rcases hit with ⟨rfl, rfl⟩ | ⟨g, cap, rfl, _⟩ <;> exact ⟨_, _, rfl⟩
  obtain ⟨kA, kc, rfl⟩ := hkv
  obtain ⟨lA, lc, rfl⟩ := hlv
  have hmost := isVal_most (.mk kind yes n s keys l) m
  simp only [J.l] at hmost
  obtain ⟨IV, hIV⟩ : ∃ IV, isVal (.mk kind yes n s keys l) m = IV := ⟨_, rfl⟩
  rw [hIV] at hmost ⊢
  rw [isVal_V] at hIV
  simp only [J.l, jVal, J.kind, J.n, J.s, J.yes]
  obtain ⟨nl, hnl⟩ : ∃ nl, l.length = nl := ⟨_, rfl⟩
  obtain ⟨nk, hnk⟩ : ∃ nk, keys.length = nk := ⟨_, rfl⟩
  rw [hnl, hnk] at hIV
  rw [hnl] at hl
  rw [hnk] at hk
  obtain ⟨PB, hPB⟩ : ∃ PB, (decide (nl = 0) && decide (nk = 0)) = PB := ⟨_, rfl⟩
  obtain ⟨BB, hBB⟩ : ∃ BB, (!yes && decide (n = 0) && decide (s = [])) = BB := ⟨_, rfl⟩
  rw [hPB, hBB] at hIV
  rw [hnl] at hit ⊢
  rw [hnk] at hst ⊢
  have HNL := Lib.hid hnl
  have HNK := Lib.hid hnk
  clear hnl hnk
  have W2 : Fr none' w ((w.alloc (.cells #[.int .i64 kind, .bool yes, .int .i64 n, .string (bs s), .slice kA nk kc, .slice lA nl lc] 26)).alloc (.cells #[.int .i64 m] 3)) := ((Fr.refl _ _).alloc _).alloc _
  have B2 : B26 ((w.alloc (.cells #[.int .i64 kind, .bool yes, .int .i64 n, .string (bs s), .slice kA nk kc, .slice lA nl lc] 26)).alloc (.cells #[.int .i64 m] 3)) w.heap.size _ _ _ _ _ _ := alloc_old (alloc_new w _) _
  have M2 : ((w.alloc (.cells #[.int .i64 kind, .bool yes, .int .i64 n, .string (bs s), .slice kA nk kc, .slice lA nl lc] 26)).alloc (.cells #[.int .i64 m] 3)).cell? ⟨w.heap.size + 1, 0, none⟩ = some (.int .i64 m) := cell_of (alloc_at (.cells #[.int .i64 m] 3) (by simp)) 0
  have HW2 := Lib.hid W2
  have HB2 := Lib.hid B2
  have HM2 := Lib.hid M2
  have HP := Lib.hid hPB
  have HBB := Lib.hid hBB
  have HIV := Lib.hid hIV
  have HG := Lib.hid g
  have HST := Lib.hid hst
  have HIT := Lib.hid hit
  have HKK := Lib.hid hkk
  have HX := Lib.hid hx
  have HMO := Lib.hid hmost
  have HH := Lib.hid H
  clear W2 B2 M2 hPB hBB hIV g hst hit hkk hx hmost H hj
  go_enter Tryz.func41, Tryz.ntmps41
  go_upto_region 1 with (fail)
  obtain ⟨w2, hw2⟩ : ∃ w2, ((w.alloc (.cells #[.int .i64 kind, .bool yes, .int .i64 n, .string (bs s), .slice kA nk kc, .slice lA nl lc] 26)).alloc (.cells #[.int .i64 m] 3)) = w2 := ⟨_, rfl⟩
  rw [hw2] at HW2 HB2 HM2 ⊢
  clear hw2
  have b0 := HB2.out.c0
  have b1 := HB2.out.c1
  have b2 := HB2.out.c2
  have b3 := HB2.out.c3
  have b4 := HB2.out.c4
  have b5 := HB2.out.c5
  go_cut [5] (fun a wx => a = .bool PB ∧ wx = w2)
  case first =>
    cases hbl : ((nl : Int) == 0) <;> cases hbk : ((nk : Int) == 0)
    all_goals
      have HX1 := Lib.hid (show decide (nl = 0) = ((nl : Int) == 0) from by rw [Bool.eq_iff_iff]; simp)
      have HX2 := Lib.hid (show decide (nk = 0) = ((nk : Int) == 0) from by rw [Bool.eq_iff_iff]; simp)
      rw [hbl] at HX1
      rw [hbk] at HX2
      go_wp2
      go_meet
      case rel => exact ⟨by rw [← HP.out, HX1.out, HX2.out]; rfl, rfl⟩
  case rest =>
    obtain ⟨rfl, rfl⟩ := hcut
    have hes : (bs s).toList.isEmpty = decide (s = []) := by rw [bs_toList]; cases s <;> simp
    have HES := Lib.hid hes
    clear hes
    go_upto_region 2 with (fail)
    go_cut [6] (fun a wx => a = .bool BB ∧ wx = wc)
    case first =>
      cases yes <;> cases hbn : (n == 0) <;> cases hbs : (bs s).toList.isEmpty
      all_goals
        have HX1 := Lib.hid (show decide (n = 0) = (n == 0) from by rw [Bool.eq_iff_iff]; simp)
        have HX2 := Lib.hid HES.out.symm
        rw [hbn] at HX1
        rw [hbs] at HX2
        go_wp2
        go_meet
        case rel => exact ⟨by rw [← HBB.out, HX1.out, HX2.out]; rfl, rfl⟩
    case rest =>
      obtain ⟨rfl, rfl⟩ := hcut
      go_upto_block 0 with (fail)
      go_cut [7] (fun a wx => a = .bool IV ∧ B26 wx w.heap.size (.int .i64 kind) (.bool yes) (.int .i64 n) (.string (bs s)) (.slice kA nk kc) (.slice lA nl lc) ∧ wx.cell? ⟨w.heap.size + 1, 0, none⟩ = some (.int .i64 m) ∧ Fr none' w wx)
      case first =>
        by_cases k0 : kind = 0
        · subst k0
          cases PB
          case false =>
            go_wp2
            go_meet
            case rel => exact ⟨by rw [← HIV.out]; unfold isV; rfl, HB2.out, HM2.out, HW2.out⟩
          case true =>
            cases BB
            case false =>
              go_wp2
              go_meet
              case rel => exact ⟨by rw [← HIV.out]; unfold isV; rfl, HB2.out, HM2.out, HW2.out⟩
            case true =>
              go_wp2
              go_meet
              case rel => exact ⟨by rw [← HIV.out]; unfold isV; rfl, HB2.out, HM2.out, HW2.out⟩
        by_cases k1 : kind = 1
        · subst k1
          cases PB
          case false =>
            go_wp2
            go_meet
            case rel => exact ⟨by rw [← HIV.out]; unfold isV; rfl, HB2.out, HM2.out, HW2.out⟩
          case true =>
            cases hbn : (n == 0)
            case false =>
              have HX1 := Lib.hid (show decide (n = 0) = (n == 0) from by rw [Bool.eq_iff_iff]; simp)
              rw [hbn] at HX1
              go_wp2
              go_meet
              case rel => exact ⟨by rw [← HIV.out]; unfold isV; rw [HX1.out]; rfl, HB2.out, HM2.out, HW2.out⟩
            case true =>
              have HX1 := Lib.hid (show decide (n = 0) = (n == 0) from by rw [Bool.eq_iff_iff]; simp)
              rw [hbn] at HX1
              cases hbs : (bs s).toList.isEmpty
              case false =>
                have HX2 := Lib.hid HES.out.symm
                rw [hbs] at HX2
                go_wp2
                go_meet
                case rel => exact ⟨by rw [← HIV.out]; unfold isV; rw [HX1.out, HX2.out]; rfl, HB2.out, HM2.out, HW2.out⟩
              case true =>
                have HX2 := Lib.hid HES.out.symm
                rw [hbs] at HX2
                go_wp2
                go_meet
                case rel => exact ⟨by rw [← HIV.out]; unfold isV; rw [HX1.out, HX2.out]; rfl, HB2.out, HM2.out, HW2.out⟩
        by_cases k2 : kind = 2
        · subst k2
          cases PB
          case false =>
            go_wp2
            go_meet
            case rel => exact ⟨by rw [← HIV.out]; unfold isV; rfl, HB2.out, HM2.out, HW2.out⟩
          case true =>
            cases yes
            case true =>
              go_wp2
              go_meet
              case rel => exact ⟨by rw [← HIV.out]; unfold isV; rfl, HB2.out, HM2.out, HW2.out⟩
            case false =>
              cases hbs : (bs s).toList.isEmpty
              case false =>
                have HX2 := Lib.hid HES.out.symm
                rw [hbs] at HX2
                go_wp2
                go_meet
                case rel => exact ⟨by rw [← HIV.out]; unfold isV; rw [HX2.out]; rfl, HB2.out, HM2.out, HW2.out⟩
              case true =>
                have HX2 := Lib.hid HES.out.symm
                rw [hbs] at HX2
                go_wp2
                go_meet
                case rel => exact ⟨by rw [← HIV.out]; unfold isV; rw [HX2.out]; rfl, HB2.out, HM2.out, HW2.out⟩
        by_cases k4 : kind = 4
        · subst k4
          have m2 := HM2.out
          cases BB
          case false =>
            go_wp2
            go_meet
            case rel => exact ⟨by rw [← HIV.out]; unfold isV; rfl, HB2.out, HM2.out, HW2.out⟩
          case true =>
            cases hbk : ((nk : Int) == 0)
            case false =>
              have HX3 := Lib.hid (show decide (nk = 0) = ((nk : Int) == 0) from by rw [Bool.eq_iff_iff]; simp)
              rw [hbk] at HX3
              go_wp2
              go_meet
              case rel => exact ⟨by rw [← HIV.out]; unfold isV; rw [HX3.out]; rfl, HB2.out, HM2.out, HW2.out⟩
            case true =>
              have HX3 := Lib.hid (show decide (nk = 0) = ((nk : Int) == 0) from by rw [Bool.eq_iff_iff]; simp)
              rw [hbk] at HX3
              cases hbm : decide (0 < m)
              case false =>
                have HX4 := Lib.hid hbm
                go_wp2
                go_meet
                case rel => exact ⟨by rw [← HIV.out]; unfold isV; rw [HX3.out, HX4.out]; rfl, HB2.out, HM2.out, HW2.out⟩
              case true =>
                have HX4 := Lib.hid hbm
                go_wp2
                go_meet
                case rel => exact ⟨by rw [← HIV.out]; unfold isV; rw [HX3.out, HX4.out]; rfl, HB2.out, HM2.out, HW2.out⟩
        by_cases k3 : kind = 3
        · subst k3
          cases PB
          case false =>
            go_wp2
            go_meet
            case rel => exact ⟨by rw [← HIV.out]; unfold isV; rfl, HB2.out, HM2.out, HW2.out⟩
          case true =>
            cases yes
            case true =>
              go_wp2
              go_meet
              case rel => exact ⟨by rw [← HIV.out]; unfold isV; rfl, HB2.out, HM2.out, HW2.out⟩
            case false =>
              cases hbn : (n == 0)
              case false =>
                have HX1 := Lib.hid (show decide (n = 0) = (n == 0) from by rw [Bool.eq_iff_iff]; simp)
                rw [hbn] at HX1
                go_wp2
                go_meet
                case rel => exact ⟨by rw [← HIV.out]; unfold isV; rw [HX1.out]; rfl, HB2.out, HM2.out, HW2.out⟩
              case true =>
                have HX1 := Lib.hid (show decide (n = 0) = (n == 0) from by rw [Bool.eq_iff_iff]; simp)
                rw [hbn] at HX1
                go_wp2_with fail
                refine (valid_c p s _ (HG.out.fr0 HW2.out) (by omega)).mono ?_
                rintro e w3 ⟨rfl, f3⟩
                go_wp2
                go_meet
                case rel => exact ⟨by rw [← HIV.out]; unfold isV; rw [HX1.out]; rfl, HB2.out.fr f3 id, f3.cell HM2.out id, HW2.out.trans f3⟩
        by_cases k5 : kind = 5
        · subst k5
          cases BB
          case false =>
            go_wp2
            go_meet
            case rel => exact ⟨by rw [← HIV.out]; unfold isV; rfl, HB2.out, HM2.out, HW2.out⟩
          case true =>
            cases hbe : ((nk : Int) == (nl : Int))
            case false =>
              have HX1 := Lib.hid (show decide (nk = nl) = ((nk : Int) == (nl : Int)) from by rw [Bool.eq_iff_iff]; simp; omega)
              rw [hbe] at HX1
              go_wp2
              go_meet
              case rel => exact ⟨by rw [← HIV.out]; unfold isV; rw [HX1.out]; rfl, HB2.out, HM2.out, HW2.out⟩
            case true =>
              have HX1 := Lib.hid (show decide (nk = nl) = ((nk : Int) == (nl : Int)) from by rw [Bool.eq_iff_iff]; simp; omega)
              rw [hbe] at HX1
              go_wp2_with fail
              refine (areKeys_c p _ keys _ (HG.out.fr0 HW2.out) (HST.out.fr HW2.out) (by rw [HNK.out]; exact hk) HKK.out).mono ?_
              rintro e w3 ⟨rfl, f3⟩
              have b5' := (HB2.out.fr f3 id).c5
              have m5' := f3.cell HM2.out id
              cases hkb : keysB [] keys
              case false =>
                have HX5 := Lib.hid hkb
                go_wp2
                go_meet
                case rel => exact ⟨by rw [← HIV.out]; unfold isV; rw [HX1.out, HX5.out]; rfl, HB2.out.fr f3 id, f3.cell HM2.out id, HW2.out.trans f3⟩
              case true =>
                have HX5 := Lib.hid hkb
                cases hbm : decide (0 < m)
                all_goals
                  have HX4 := Lib.hid hbm
                  go_wp2
                  go_meet
                  case rel => exact ⟨by rw [← HIV.out]; unfold isV; rw [HX1.out, HX4.out, HX5.out]; rfl, HB2.out.fr f3 id, f3.cell HM2.out id, HW2.out.trans f3⟩
        · have q0 : (kind == 0) = false := by simpa using k0
          have q1 : (kind == 1) = false := by simpa using k1
          have q2 : (kind == 2) = false := by simpa using k2
          have q3 : (kind == 3) = false := by simpa using k3
          have q4 : (kind == 4) = false := by simpa using k4
          have q5 : (kind == 5) = false := by simpa using k5
          have HE := Lib.hid (show false = IV from by have := HIV.out; unfold isV at this; rw [if_neg k0, if_neg k1, if_neg k2, if_neg k3, if_neg k4, if_neg k5] at this; exact this)
          clear k0 k1 k2 k3 k4 k5
          go_wp2
          go_meet
          case rel => exact ⟨by rw [← HE.out], HB2.out, HM2.out, HW2.out⟩
      case rest =>
        obtain ⟨rfl, hB, hM, hF⟩ := hcut
        have HB3 := Lib.hid hB
        have HM3 := Lib.hid hM
        have HF3 := Lib.hid hF
        clear hB hM hF b0 b1 b2 b3 b4 b5 HB2 HM2 HW2
        have b5 := HB3.out.c5
        cases IV with
        | false =>
          go_wp2
          go_ret
          exact ⟨rfl, HF3.out⟩
        | true =>
          have hmf : ∀ (fn : Fn) (first cap : Array Value) (w : World), (Instr.makeFunc fn first cap).run Tryz.prog w = .ok (.func fn first cap) w := fun _ _ _ _ => rfl
          go_wp2_with fail
          have hcall : Calls Tryz.prog 69 #[.slice lA nl lc, .func (.func 70) #[] #[.pointer (some ⟨w.heap.size + 1, 0, none⟩)]] wc fun e w' => e = .returned (.bool (!l.all f)) ∧ Fr none' wc w' := by
            rcases HMO.out (by simp) with h0 | h0
            · exact containsFunc_c p m f (HH.out h0) h0 hm' _ ok l _ wc (HG.out.fr0 HF3.out) (HIT.out.fr HF3.out) HX.out HM3.out
            · have h1 := HIT.out
              have h2 := HNL.out
              rw [h0] at h1 h2 ⊢
              rcases h1 with ⟨e, _⟩ | ⟨g, cap, e, _⟩
              · rw [e]; exact containsNil_c p m f _ wc
              · rw [e]; exact containsNil_c p m f _ wc
          refine hcall.mono ?_
          rintro e w5 ⟨rfl, f5⟩
          go_wp2
          go_ret
          exact ⟨ret_bool (by simp), HF3.out.trans f5⟩
end Go.Proofs.YtakgcaehkphepaaGreatDoor
