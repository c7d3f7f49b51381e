/- (*json.reader).runes: its iterator, walked with word's loop as its yield. -/
import Derived.Test.YtakgcaehkphepaaGreatDoorJq
import Derived.Test.YtakgcaehkphepaaGreatDoorJr
import Derived.Shelf.Unicode.DecodeLastEight
namespace Go.Proofs.YtakgcaehkphepaaGreatDoor
open Go.RowKit
set_option linter.unusedVariables false
set_option linter.unusedSimpArgs false

/-- A text's runes, up to its end, or what is wrong: what was handed on, what is left, what is wrong. -/
def runesM : Nat → Bs → Option Int → Bs → Bs × Bs × Option Int
  | 0, s, o, acc => (acc, s, o)
  | k + 1, s, o, acc =>
    match o with
    | some y => (acc, s, some y)
    | none =>
      if (Lib.decodeGo (bs s)).1 < 32 ∨ (Lib.decodeGo (bs s)).1 = 65533 ∧ (Lib.decodeGo (bs s)).2 < 2 then (acc, s, failE none 150)
      else if [34].isPrefixOf s then (acc, s.drop 1, none)
      else if [92].isPrefixOf s then runesM k (escM (s.drop 1) none).2.1 (escM (s.drop 1) none).2.2 (acc ++ (escM (s.drop 1) none).1)
      else runesM k (s.drop (Lib.decodeGo (bs s)).2) none (acc ++ s.take (Lib.decodeGo (bs s)).2)

/-- What holds between two rounds. -/
structure Mid (fn : Nat) (p : Value) (r bb bx D L B : Nat) (s : Bs) (d : Int) (o : Option Int) (acc : Bs) (W : World) : Prop where
  rs : RS p W r s d o
  L : W.heap[L]? = some (.loop (wRec fn r bb bx D .ready none))
  K : W.heap[D]? = some (.deferred (some []))
  bx : W.heap[bx]? = some (.cells #[.pointer (some ⟨r, 0, none⟩)] 45 (0, 0))
  bld : Bld W B bb acc
  hB : B ≤ W.heap.size
/-- The blocks' order. -/
structure Ord (r bb bx D L B : Nat) : Prop where
  h1 : r < bb
  h2 : bb < bx
  h3 : bx < D
  h4 : D < L
  h5 : L < B
theorem Mid.read {fn : Nat} {p : Value} {r bb bx D L B : Nat} {s s' : Bs} {d d' : Int} {o o' : Option Int} {acc : Bs} {W W' : World} (h : Mid fn p r bb bx D L B s d o acc W) (hO : Ord r bb bx D L B) (hr : RS p W' r s' d' o') (f : Fr (· = r) W W') : Mid fn p r bb bx D L B s' d' o' acc W' where
  rs := hr
  L := f.get h.L (by have := hO.h1; have := hO.h2; have := hO.h3; have := hO.h4; omega)
  K := f.get h.K (by have := hO.h1; have := hO.h2; have := hO.h3; omega)
  bx := f.get h.bx (by have := hO.h1; have := hO.h2; omega)
  bld := h.bld.fr f (by have := hO.h1; omega) (fun k hk _ e => by have := hO.h1; have := hO.h2; have := hO.h3; have := hO.h4; have := hO.h5; omega)
  hB := Nat.le_trans h.hB f.size
theorem Mid.wrote {fn : Nat} {p : Value} {r bb bx D L B : Nat} {s : Bs} {d : Int} {o : Option Int} {acc acc' : Bs} {W W' : World} (h : Mid fn p r bb bx D L B s d o acc W) (hO : Ord r bb bx D L B) (hL : W'.heap[L]? = some (.loop (wRec fn r bb bx D .ready none))) (hb : Bld W' B bb acc') (f : Fr (fun k => k = bb ∨ k = L ∨ B ≤ k) W W') : Mid fn p r bb bx D L B s d o acc' W' where
  rs := ⟨h.rs.gl.fr f (fun k hk e => by have := h.rs.lo; have := hO.h1; have := hO.h2; have := hO.h3; have := hO.h4; have := hO.h5; omega), h.rs.rd.fr f (fun e => by have := hO.h1; have := hO.h2; have := hO.h3; have := hO.h4; have := hO.h5; omega), h.rs.lo⟩
  L := hL
  K := f.get h.K (by have := hO.h1; have := hO.h2; have := hO.h3; have := hO.h4; have := hO.h5; omega)
  bx := f.get h.bx (by have := hO.h1; have := hO.h2; have := hO.h3; have := hO.h4; have := hO.h5; omega)
  bld := hb
  hB := Nat.le_trans h.hB f.size
abbrev wMod (r bb L B : Nat) : Nat → Prop := fun k => k = r ∨ k = bb ∨ k = L ∨ B ≤ k

theorem Mid.read0 {fn : Nat} {p : Value} {r bb bx D L B : Nat} {s : Bs} {d : Int} {o : Option Int} {acc : Bs} {W W' : World} (h : Mid fn p r bb bx D L B s d o acc W) (hO : Ord r bb bx D L B) (f : Fr none' W W') : Mid fn p r bb bx D L B s d o acc W' :=
  h.read hO (h.rs.fr0 f) (f.mono (fun _ h => h.elim))
theorem Mid.cb {fn : Nat} {p : Value} {r bb bx D L B : Nat} {s : Bs} {d : Int} {o : Option Int} {acc : Bs} {W : World} (h : Mid fn p r bb bx D L B s d o acc W) : W.cell? ⟨bx, 0, none⟩ = some (.pointer (some ⟨r, 0, none⟩)) := cell_of h.bx 0
theorem fr_wMod {r bb L B : Nat} {W W' : World} (f : Fr (· = r) W W') : Fr (wMod r bb L B) W W' := f.mono (fun _ h => .inl h)
theorem fr_wMod0 {r bb L B : Nat} {W W' : World} (f : Fr none' W W') : Fr (wMod r bb L B) W W' := f.mono (fun _ h => h.elim)
theorem decGo_le (s : Bs) : (Lib.decodeGo (bs s)).2 ≤ s.length := by
  have := Lib.decodeGo_le_size (bs s)
  rwa [bs_size] at this
theorem decGo_c (s : Bs) : (Lib.decodeGo (bs s)).1 ≤ 1114111 := by
  unfold Lib.decodeGo
  split
  · decide
  · exact Lib.rune_le _ _
theorem decGo_pos (s : Bs) (h : s ≠ []) : 1 ≤ (Lib.decodeGo (bs s)).2 := by
  unfold Lib.decodeGo
  rw [if_neg (by rw [bs_size]; exact fun e => h (List.length_eq_zero_iff.1 e))]
  exact Lib.width_pos _ _
theorem decGo_nil : Lib.decodeGo (bs []) = (65533, 0) := rfl

theorem pre_pos {c : UInt8} {s : Bs} (h : List.isPrefixOf [c] s = true) : 0 < s.length := by cases s <;> simp_all
theorem encB_le (r : Int) : (encB r).length ≤ 4 := by
  unfold encB Utf8.encode
  dsimp only
  repeat' split
  all_goals simp
theorem esc1_len (c : Int) (t : Bs) (h : esc1 c = some t) : t.length = 1 ∧ c ≠ 0 := by
  unfold esc1 at h
  repeat' split at h
  all_goals first
  | (cases h; refine ⟨rfl, ?_⟩; omega)
  | (simp at h; done)
theorem hex4_len (s : Bs) (n : Nat) (h : hex4 s = some n) : 4 ≤ s.length := by
  unfold hex4 at h
  split at h
  · assumption
  · cases h
theorem escU_len (s : Bs) (o : Option Int) : (escU s o).1.length + (escU s o).2.1.length ≤ s.length + 1 := by
  unfold escU
  have h6 : ∀ l : Bs, (l.drop 4).drop 2 = l.drop 6 := fun l => by rw [List.drop_drop]
  have e4 : ∀ r, (encB r).length ≤ 4 := encB_le
  cases hx : hex4 s with
  | none => simp
  | some n =>
    have := hex4_len s n hx
    dsimp only
    split
    · have := e4 n; simp only [List.length_drop]; omega
    · split
      · simp only [List.length_drop, List.length_nil]; omega
      · split
        · cases hy : hex4 (s.drop 6) with
          | none => simp only [List.length_drop, List.length_nil]; omega
          | some m =>
            have h2 := hex4_len _ m hy
            rw [List.length_drop] at h2
            dsimp only
            split
            · have := e4 (65536 + ((n : Int) - 55296) * 1024 + m - 56320); simp only [List.length_drop]; omega
            · simp only [List.length_drop, List.length_nil]; omega
        · simp only [List.length_drop, List.length_nil]; omega
theorem escM_len (s : Bs) (o : Option Int) : (escM s o).1.length + (escM s o).2.1.length ≤ s.length := by
  unfold escM
  cases hx : esc1 (first s) with
  | some t =>
    obtain ⟨h1, h2⟩ := esc1_len _ _ hx
    have h3 : s ≠ [] := by rintro rfl; exact h2 rfl
    have h4 : 0 < s.length := List.length_pos_iff.2 h3
    simp only [List.length_drop]
    omega
  | none =>
    dsimp only
    split
    · rename_i hp
      have h4 : 0 < s.length := by cases s <;> simp_all
      have := escU_len (s.drop 1) o
      rw [List.length_drop] at this
      omega
    · simp
theorem dc_pos {s : Bs} {dc : Nat × Nat} {C : Int} (hd : Lib.decodeGo (bs s) = dc) (hc : (dc.1 : Int) = C) (h : (C == 65533) = false) : 1 ≤ dc.2 := by
  subst hd
  subst hc
  exact decGo_pos s (fun e => by subst e; exact absurd h (by decide))

set_option maxHeartbeats 4000000 in
set_option maxRecDepth 100000 in
theorem runes_c (fn : Nat) (p : Value) (r bb bx D L B : Nat) (hO : Ord r bb bx D L B) (s : Bs) (d : Int) (o : Option Int) (W : World) (h : Mid fn p r bb bx D L B s d o [] W) (N : Nat) (hN : s.length ≤ N) (hN' : N ≤ 1073741824) :
    Calls Tryz.prog 121 #[.func (.yield L) #[] #[], .pointer (some ⟨bx, 0, none⟩)] W fun e W' => e = .returned (.tuple #[]) ∧
      Mid fn p r bb bx D L B (runesM (s.length + 1) s o []).2.1 d (runesM (s.length + 1) s o []).2.2 (runesM (s.length + 1) s o []).1 W' ∧ Fr (wMod r bb L B) W W' := by
  have HO := Lib.hid hO
  have HM := Lib.hid h
  have HN := Lib.hid (And.intro hN hN')
  obtain ⟨FIN, hFIN⟩ : ∃ FIN, runesM (s.length + 1) s o [] = FIN := ⟨_, rfl⟩
  rw [hFIN]
  have HFIN := Lib.hid hFIN
  clear hO h hN hN' hFIN
  go_enter Tryz.func121, Tryz.ntmps121
  go_wp2
  go_step3
  go_wp2
  go_step3
  go_wp2
  go_loopg [3] (s.length + 1) (fun g _ wx => ∃ (s' : Bs) (o' : Option Int) (acc : Bs), Mid fn p r bb bx D L B s' d o' acc wx ∧ Fr (wMod r bb L B) W wx ∧ s'.length < g ∧ acc.length + s'.length ≤ N ∧ runesM g s' o' acc = FIN)
  case atStart => exact ⟨s, o, [], HM.out, Fr.refl _ _, Nat.lt_succ_self _, by have := HN.out.1; simpa using this, HFIN.out⟩
  case round =>
    obtain ⟨s', o', acc, hmid, hfr, hlt, hlen, hfin⟩ := hrel
    have hcb : _ = some (Value.pointer (some ⟨r, 0, none⟩)) := cell_of hmid.bx 0
    have hc2 := hmid.rs.rd.c2
    have hc0 := hmid.rs.rd.c0
    have HM := Lib.hid hmid
    have HF := Lib.hid hfr
    have HI := Lib.hid (And.intro hlt (And.intro hlen hfin))
    clear hmid hfr hlt hlen hfin
    obtain ⟨g, rfl⟩ : ∃ g, gk = g + 1 := ⟨gk - 1, by have := HI.out.1; omega⟩
    cases o' with
    | some y =>
      unfold errV at hc2
      go_wp2
      try rw [Exit.noGoto_normal]
      go_end0
      have hE : FIN = (acc, s', some y) := by rw [← HI.out.2.2]; rfl
      rw [hE]
      exact ⟨rfl, HM.out, HF.out⟩
    | none =>
      unfold errV at hc2
      go_wp2_with fail
      refine (Tryz.utf8_DecodeRuneInString (bs s') _ HM.out.rs.gl.u8).mono ?_
      rintro e w1 ⟨rfl, hb1⟩
      have M1 := Lib.hid (HM.out.read0 HO.out (Fr.of_below hb1 _))
      have F1 : Hid (Fr (wMod r bb L B) W w1) := HF.out.trans (fr_wMod0 (Fr.of_below hb1 _))
      have cb1 := M1.out.cb
      have c01 := M1.out.rs.rd.c0
      have hle := decGo_le s'
      have hcl := decGo_c s'
      have hst : runesM (g + 1) s' none acc = FIN := HI.out.2.2
      simp only [runesM] at hst
      have hex : (bs s').extract 0 (Lib.decodeGo (bs s')).2 = bs (s'.take (Lib.decodeGo (bs s')).2) := by rw [bs_extract]; rfl
      have hsz := bs_size s'
      obtain ⟨dc, hdc⟩ : ∃ dc, Lib.decodeGo (bs s') = dc := ⟨_, rfl⟩
      rw [hdc] at hle hcl hst hex ⊢
      obtain ⟨C, hC⟩ : ∃ C : Int, (dc.1 : Int) = C := ⟨_, rfl⟩
      have hC0 : 0 ≤ C := by omega
      have hC1 : C ≤ 1114111 := by omega
      rw [hC]
      clear hb1 hcb hc2 hc0 hcl
      have hns : dc.2 ≤ (bs s').size := by omega
      by_cases hbad : dc.1 < 32 ∨ dc.1 = 65533 ∧ dc.2 < 2
      · rw [if_pos hbad] at hst
        have HST := Lib.hid hst
        have hbad' : C < 32 ∨ C = 65533 ∧ dc.2 < 2 := by omega
        clear hst hbad hC hdc hsz hle
        rcases hbad' with hx | ⟨hx, hy⟩
        · go_wp2_with fail
          refine (fail_r p r s' d 150 none _ M1.out.rs).mono ?_
          rintro e w2 ⟨rfl, r2, f2⟩
          have M2 := Lib.hid (M1.out.read HO.out r2 f2)
          have F2 : Hid (Fr (wMod r bb L B) W w2) := F1.out.trans (fr_wMod f2)
          clear r2 f2
          go_wp2
          try rw [Exit.noGoto_normal]
          go_end0
          rw [← HST.out]
          exact ⟨rfl, M2.out, F2.out⟩
        · subst hx
          go_wp2_with fail
          refine (fail_r p r s' d 150 none _ M1.out.rs).mono ?_
          rintro e w2 ⟨rfl, r2, f2⟩
          have M2 := Lib.hid (M1.out.read HO.out r2 f2)
          have F2 : Hid (Fr (wMod r bb L B) W w2) := F1.out.trans (fr_wMod f2)
          clear r2 f2
          go_wp2
          try rw [Exit.noGoto_normal]
          go_end0
          rw [← HST.out]
          exact ⟨rfl, M2.out, F2.out⟩
      · rw [if_neg hbad] at hst
        have hbad' : 32 ≤ C ∧ (C ≠ 65533 ∨ C = 65533 ∧ 2 ≤ dc.2) := by omega
        obtain ⟨h32, hbad'⟩ := hbad'
        have HB := Lib.hid hC
        have HS := Lib.hid hst
        have HZ := Lib.hid hsz
        have HD := Lib.hid hdc
        have HL := Lib.hid hle
        clear hbad hC hst hdc hsz hle
        rcases hbad' with hx | ⟨hx, hy⟩
        · have hx' : (C == 65533) = false := beq_eq_false_iff_ne.2 hx
          clear hx
          go_wp2_with fail
          refine (take_r p r s' [34] d none _ M1.out.rs).mono ?_
          rintro e w2 ⟨rfl, r2, f2⟩
          cases hq : List.isPrefixOf [34] s' with
          | true =>
            rw [cutPre_yes hq] at r2
            have M2 := Lib.hid (M1.out.read HO.out r2 f2)
            have F2 : Hid (Fr (wMod r bb L B) W w2) := F1.out.trans (fr_wMod f2)
            have hst := HS.out
            rw [if_pos hq] at hst
            have HST := Lib.hid hst
            clear r2 f2 hq hst
            go_wp2
            try rw [Exit.noGoto_normal]
            go_end0
            rw [← HST.out]
            exact ⟨rfl, M2.out, F2.out⟩
          | false =>
            rw [cutPre_no hq] at r2
            have M2 := Lib.hid (M1.out.read HO.out r2 f2)
            have F2 : Hid (Fr (wMod r bb L B) W w2) := F1.out.trans (fr_wMod f2)
            have cb2 := M2.out.cb
            have hst := HS.out
            rw [if_neg (by rw [hq]; simp)] at hst
            have HS2 := Lib.hid hst
            clear r2 f2 hq hst
            go_wp2_with fail
            refine (take_r p r s' [92] d none _ M2.out.rs).mono ?_
            rintro e w3 ⟨rfl, r3, f3⟩
            cases hq : List.isPrefixOf [92] s' with
            | true =>
              rw [cutPre_yes hq] at r3
              have M3 := Lib.hid (M2.out.read HO.out r3 f3)
              have F3 : Hid (Fr (wMod r bb L B) W w3) := F2.out.trans (fr_wMod f3)
              have cb3 := M3.out.cb
              have hst := HS2.out
              rw [if_pos hq] at hst
              have HS3 := Lib.hid hst
              have HQ := Lib.hid hq
              clear r3 f3 hq hst
              go_wp2_with fail
              refine (escape_r p r (s'.drop 1) d none _ M3.out.rs).mono ?_
              rintro e w4 ⟨rfl, r4, f4⟩
              have M4 := Lib.hid (M3.out.read HO.out r4 f4)
              have F4 : Hid (Fr (wMod r bb L B) W w4) := F3.out.trans (fr_wMod f4)
              clear r4 f4
              go_upto_region 9 with (fail)
              have hy : (Instr.yield L #[.string (bs ((escM (List.tail s') none).1))]).run Tryz.prog w4 = .ok (.round L fn #[.pointer (some ⟨r, 0, none⟩), undef, .string ⟨#[]⟩, .pointer (some ⟨bb, 0, none⟩), undef, .pointer (some ⟨r, 0, none⟩), .func (.func 121) #[] #[.pointer (some ⟨bx, 0, none⟩)], .string (bs ((escM (List.tail s') none).1)), undef, undef, undef] wAssign wBody) w4 := by
                simpa [wRec] using run_yield (P := Tryz.prog) (args := #[.string (bs ((escM (List.tail s') none).1))]) M4.out.L rfl
              refine (wpIn_wide (n := 0)).1 ?_
              gi_wp2
              refine ⟨rfl, (wRound Fence.wide rfl 0 fn r bb bx D L B acc ((escM (List.tail s') none).1) w4 M4.out.L M4.out.bld HO.out.h5 (by have := HO.out.h2; have := HO.out.h3; have := HO.out.h4; omega) M4.out.hB ?_).mono ?_⟩
              · have hn := HN.out.2
                have hi := HI.out.2.1
                have := escM_len (List.tail s') none
                have ht : (List.tail s').length = s'.length - 1 := List.length_tail
                omega
              rintro e wz ⟨rfl, hL5, hB5, f5⟩
              have MZ := Lib.hid (M4.out.wrote HO.out hL5 hB5 f5)
              have FZ : Hid (Fr (wMod r bb L B) W wz) := F4.out.trans (f5.mono (fun k hk => by rcases hk with h | h | h; exact .inr (.inl h); exact .inr (.inr (.inl h)); exact .inr (.inr (.inr h))))
              clear hL5 hB5 f5 hy
              gi_wp2
              go_wp2
              go_roundg g
              case measure => exact Nat.lt_succ_self _
              case rel =>
                refine ⟨_, _, _, MZ.out, FZ.out, ?_, ?_, ?_⟩
                · have := escM_len (s'.drop 1) none
                  have ht : (s'.drop 1).length = s'.length - 1 := List.length_drop
                  have hp : 0 < s'.length := pre_pos HQ.out
                  have := HI.out.1
                  show (escM (s'.drop 1) none).2.1.length < g
                  omega
                · have := escM_len (s'.drop 1) none
                  have hd : List.tail s' = s'.drop 1 := by cases s' <;> rfl
                  have ht : (s'.drop 1).length = s'.length - 1 := List.length_drop
                  have := HI.out.2.1
                  rw [hd, List.length_append]
                  show acc.length + (escM (s'.drop 1) none).1.length + (escM (s'.drop 1) none).2.1.length ≤ N
                  omega
                · have hd : List.tail s' = s'.drop 1 := by cases s' <;> rfl
                  rw [hd]
                  exact HS3.out
            | false =>
              rw [cutPre_no hq] at r3
              have M3 := Lib.hid (M2.out.read HO.out r3 f3)
              have F3 : Hid (Fr (wMod r bb L B) W w3) := F2.out.trans (fr_wMod f3)
              have cb3 := M3.out.cb
              have c03 := M3.out.rs.rd.c0
              have z03 := M3.out.rs.rd.fz 0
              have hst := HS2.out
              rw [if_neg (by rw [hq]; simp)] at hst
              have HS3 := Lib.hid hst
              have hns' : (bs s').extract dc.2 (bs s').size = bs (s'.drop dc.2) := by rw [bs_extract, HZ.out]; congr 1; rw [List.take_of_length_le (by simp)]
              clear r3 f3 hq hst
              go_wp2
              go_region
              all_goals
                have M4 := Lib.hid (M3.out.read HO.out (M3.out.rs.next (M3.out.rs.rd.set0 (s'.drop dc.2)) (Fr.set' r 0 _ rfl)).drew (Fr.set' (m := (· = r)) r 0 _ rfl).drew)
                have F4 : Hid (Fr (wMod r bb L B) W ((w3.setCell ⟨r, 0, none⟩ (.string (bs (s'.drop dc.2)))).drew)) := F3.out.trans (fr_wMod (Fr.set' (m := (· = r)) r 0 _ rfl).drew)
                obtain ⟨w4, hw4⟩ : ∃ w4, (w3.setCell ⟨r, 0, none⟩ (.string (bs (s'.drop dc.2)))).drew = w4 := ⟨_, rfl⟩
                rw [hw4] at M4 F4 ⊢
                clear hw4
                go_upto_region 9 with (fail)
                have hy : (Instr.yield L #[.string (bs (s'.take dc.2))]).run Tryz.prog w4 = .ok (.round L fn #[.pointer (some ⟨r, 0, none⟩), undef, .string ⟨#[]⟩, .pointer (some ⟨bb, 0, none⟩), undef, .pointer (some ⟨r, 0, none⟩), .func (.func 121) #[] #[.pointer (some ⟨bx, 0, none⟩)], .string (bs (s'.take dc.2)), undef, undef, undef] wAssign wBody) w4 := by
                  simpa [wRec] using run_yield (P := Tryz.prog) (args := #[.string (bs (s'.take dc.2))]) M4.out.L rfl
                refine (wpIn_wide (n := 0)).1 ?_
                gi_wp2
                refine ⟨rfl, (wRound Fence.wide rfl 0 fn r bb bx D L B acc (s'.take dc.2) w4 M4.out.L M4.out.bld HO.out.h5 (by have := HO.out.h2; have := HO.out.h3; have := HO.out.h4; omega) M4.out.hB ?_).mono ?_⟩
                · have hn := HN.out.2
                  have hi := HI.out.2.1
                  have := HL.out
                  have := List.length_take_le dc.2 s'
                  omega
                rintro e wz ⟨rfl, hL5, hB5, f5⟩
                have MZ := Lib.hid (M4.out.wrote HO.out hL5 hB5 f5)
                have FZ : Hid (Fr (wMod r bb L B) W wz) := F4.out.trans (f5.mono (fun k hk => by rcases hk with h | h | h; exact .inr (.inl h); exact .inr (.inr (.inl h)); exact .inr (.inr (.inr h))))
                clear hL5 hB5 f5 hy
                gi_wp2
                go_wp2
                go_roundg g
                case measure => exact Nat.lt_succ_self _
                case rel =>
                  refine ⟨_, _, _, MZ.out, FZ.out, ?_, ?_, ?_⟩
                  · have := HI.out.1
                    have := HL.out
                    have h1 : 1 ≤ dc.2 := dc_pos HD.out HB.out hx'
                    rw [List.length_drop]
                    omega
                  · have := HI.out.2.1
                    have := HL.out
                    rw [List.length_append, List.length_take, List.length_drop]
                    omega
                  · exact HS3.out
        · subst hx
          go_wp2_with fail
          refine (take_r p r s' [34] d none _ M1.out.rs).mono ?_
          rintro e w2 ⟨rfl, r2, f2⟩
          cases hq : List.isPrefixOf [34] s' with
          | true =>
            rw [cutPre_yes hq] at r2
            have M2 := Lib.hid (M1.out.read HO.out r2 f2)
            have F2 : Hid (Fr (wMod r bb L B) W w2) := F1.out.trans (fr_wMod f2)
            have hst := HS.out
            rw [if_pos hq] at hst
            have HST := Lib.hid hst
            clear r2 f2 hq hst
            go_wp2
            try rw [Exit.noGoto_normal]
            go_end0
            rw [← HST.out]
            exact ⟨rfl, M2.out, F2.out⟩
          | false =>
            rw [cutPre_no hq] at r2
            have M2 := Lib.hid (M1.out.read HO.out r2 f2)
            have F2 : Hid (Fr (wMod r bb L B) W w2) := F1.out.trans (fr_wMod f2)
            have cb2 := M2.out.cb
            have hst := HS.out
            rw [if_neg (by rw [hq]; simp)] at hst
            have HS2 := Lib.hid hst
            clear r2 f2 hq hst
            go_wp2_with fail
            refine (take_r p r s' [92] d none _ M2.out.rs).mono ?_
            rintro e w3 ⟨rfl, r3, f3⟩
            cases hq : List.isPrefixOf [92] s' with
            | true =>
              rw [cutPre_yes hq] at r3
              have M3 := Lib.hid (M2.out.read HO.out r3 f3)
              have F3 : Hid (Fr (wMod r bb L B) W w3) := F2.out.trans (fr_wMod f3)
              have cb3 := M3.out.cb
              have hst := HS2.out
              rw [if_pos hq] at hst
              have HS3 := Lib.hid hst
              have HQ := Lib.hid hq
              clear r3 f3 hq hst
              go_wp2_with fail
              refine (escape_r p r (s'.drop 1) d none _ M3.out.rs).mono ?_
              rintro e w4 ⟨rfl, r4, f4⟩
              have M4 := Lib.hid (M3.out.read HO.out r4 f4)
              have F4 : Hid (Fr (wMod r bb L B) W w4) := F3.out.trans (fr_wMod f4)
              clear r4 f4
              go_upto_region 9 with (fail)
              have hy : (Instr.yield L #[.string (bs ((escM (List.tail s') none).1))]).run Tryz.prog w4 = .ok (.round L fn #[.pointer (some ⟨r, 0, none⟩), undef, .string ⟨#[]⟩, .pointer (some ⟨bb, 0, none⟩), undef, .pointer (some ⟨r, 0, none⟩), .func (.func 121) #[] #[.pointer (some ⟨bx, 0, none⟩)], .string (bs ((escM (List.tail s') none).1)), undef, undef, undef] wAssign wBody) w4 := by
                simpa [wRec] using run_yield (P := Tryz.prog) (args := #[.string (bs ((escM (List.tail s') none).1))]) M4.out.L rfl
              refine (wpIn_wide (n := 0)).1 ?_
              gi_wp2
              refine ⟨rfl, (wRound Fence.wide rfl 0 fn r bb bx D L B acc ((escM (List.tail s') none).1) w4 M4.out.L M4.out.bld HO.out.h5 (by have := HO.out.h2; have := HO.out.h3; have := HO.out.h4; omega) M4.out.hB ?_).mono ?_⟩
              · have hn := HN.out.2
                have hi := HI.out.2.1
                have := escM_len (List.tail s') none
                have ht : (List.tail s').length = s'.length - 1 := List.length_tail
                omega
              rintro e wz ⟨rfl, hL5, hB5, f5⟩
              have MZ := Lib.hid (M4.out.wrote HO.out hL5 hB5 f5)
              have FZ : Hid (Fr (wMod r bb L B) W wz) := F4.out.trans (f5.mono (fun k hk => by rcases hk with h | h | h; exact .inr (.inl h); exact .inr (.inr (.inl h)); exact .inr (.inr (.inr h))))
              clear hL5 hB5 f5 hy
              gi_wp2
              go_wp2
              go_roundg g
              case measure => exact Nat.lt_succ_self _
              case rel =>
                refine ⟨_, _, _, MZ.out, FZ.out, ?_, ?_, ?_⟩
                · have := escM_len (s'.drop 1) none
                  have ht : (s'.drop 1).length = s'.length - 1 := List.length_drop
                  have hp : 0 < s'.length := pre_pos HQ.out
                  have := HI.out.1
                  show (escM (s'.drop 1) none).2.1.length < g
                  omega
                · have := escM_len (s'.drop 1) none
                  have hd : List.tail s' = s'.drop 1 := by cases s' <;> rfl
                  have ht : (s'.drop 1).length = s'.length - 1 := List.length_drop
                  have := HI.out.2.1
                  rw [hd, List.length_append]
                  show acc.length + (escM (s'.drop 1) none).1.length + (escM (s'.drop 1) none).2.1.length ≤ N
                  omega
                · have hd : List.tail s' = s'.drop 1 := by cases s' <;> rfl
                  rw [hd]
                  exact HS3.out
            | false =>
              rw [cutPre_no hq] at r3
              have M3 := Lib.hid (M2.out.read HO.out r3 f3)
              have F3 : Hid (Fr (wMod r bb L B) W w3) := F2.out.trans (fr_wMod f3)
              have cb3 := M3.out.cb
              have c03 := M3.out.rs.rd.c0
              have z03 := M3.out.rs.rd.fz 0
              have hst := HS2.out
              rw [if_neg (by rw [hq]; simp)] at hst
              have HS3 := Lib.hid hst
              have hns' : (bs s').extract dc.2 (bs s').size = bs (s'.drop dc.2) := by rw [bs_extract, HZ.out]; congr 1; rw [List.take_of_length_le (by simp)]
              clear r3 f3 hq hst
              go_wp2
              go_region
              all_goals
                have M4 := Lib.hid (M3.out.read HO.out (M3.out.rs.next (M3.out.rs.rd.set0 (s'.drop dc.2)) (Fr.set' r 0 _ rfl)).drew (Fr.set' (m := (· = r)) r 0 _ rfl).drew)
                have F4 : Hid (Fr (wMod r bb L B) W ((w3.setCell ⟨r, 0, none⟩ (.string (bs (s'.drop dc.2)))).drew)) := F3.out.trans (fr_wMod (Fr.set' (m := (· = r)) r 0 _ rfl).drew)
                obtain ⟨w4, hw4⟩ : ∃ w4, (w3.setCell ⟨r, 0, none⟩ (.string (bs (s'.drop dc.2)))).drew = w4 := ⟨_, rfl⟩
                rw [hw4] at M4 F4 ⊢
                clear hw4
                go_upto_region 9 with (fail)
                have hy : (Instr.yield L #[.string (bs (s'.take dc.2))]).run Tryz.prog w4 = .ok (.round L fn #[.pointer (some ⟨r, 0, none⟩), undef, .string ⟨#[]⟩, .pointer (some ⟨bb, 0, none⟩), undef, .pointer (some ⟨r, 0, none⟩), .func (.func 121) #[] #[.pointer (some ⟨bx, 0, none⟩)], .string (bs (s'.take dc.2)), undef, undef, undef] wAssign wBody) w4 := by
                  simpa [wRec] using run_yield (P := Tryz.prog) (args := #[.string (bs (s'.take dc.2))]) M4.out.L rfl
                refine (wpIn_wide (n := 0)).1 ?_
                gi_wp2
                refine ⟨rfl, (wRound Fence.wide rfl 0 fn r bb bx D L B acc (s'.take dc.2) w4 M4.out.L M4.out.bld HO.out.h5 (by have := HO.out.h2; have := HO.out.h3; have := HO.out.h4; omega) M4.out.hB ?_).mono ?_⟩
                · have hn := HN.out.2
                  have hi := HI.out.2.1
                  have := HL.out
                  have := List.length_take_le dc.2 s'
                  omega
                rintro e wz ⟨rfl, hL5, hB5, f5⟩
                have MZ := Lib.hid (M4.out.wrote HO.out hL5 hB5 f5)
                have FZ : Hid (Fr (wMod r bb L B) W wz) := F4.out.trans (f5.mono (fun k hk => by rcases hk with h | h | h; exact .inr (.inl h); exact .inr (.inr (.inl h)); exact .inr (.inr (.inr h))))
                clear hL5 hB5 f5 hy
                gi_wp2
                go_wp2
                go_roundg g
                case measure => exact Nat.lt_succ_self _
                case rel =>
                  refine ⟨_, _, _, MZ.out, FZ.out, ?_, ?_, ?_⟩
                  · have := HI.out.1
                    have := HL.out
                    have h1 : 1 ≤ dc.2 := by omega
                    rw [List.length_drop]
                    omega
                  · have := HI.out.2.1
                    have := HL.out
                    rw [List.length_append, List.length_take, List.length_drop]
                    omega
                  · exact HS3.out
end Go.Proofs.YtakgcaehkphepaaGreatDoor
