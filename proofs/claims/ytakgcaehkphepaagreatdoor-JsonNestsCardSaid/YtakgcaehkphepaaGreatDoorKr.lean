/- (*json.reader).items: the region that draws (append, the call of value, two stores). -/
import Derived.Test.YtakgcaehkphepaaGreatDoorKq
namespace Go.Proofs.YtakgcaehkphepaaGreatDoor
open Go.RowKit
set_option linter.unusedVariables false
set_option linter.unusedSimpArgs false

def ops16 : Array Oper := #[{ dst := some 64, op := Op.fieldAddr 26 (Operand.tmp 7) 5, type := 0, pos := "json.go:336", after := #[], guard := none }, { dst := some 65, op := Op.load 24 (Operand.tmp 64), type := 24, pos := "json.go:336", after := #[{ on := 0, ground := Ground.data }], guard := none }, { dst := some 66, op := Op.load 45 (Operand.tmp 3), type := 45, pos := "json.go:336", after := #[], guard := none }, { dst := some 67, op := Op.call { callee := Callee.value (Operand.func 28), args := #[Operand.tmp 66], argTypes := #[45] }, type := 26, pos := "json.go:336", after := #[{ on := 2, ground := Ground.data }], guard := none }, { dst := some 68, op := Op.call { callee := Callee.builtin Builtin.len, args := #[Operand.tmp 65], argTypes := #[24] }, type := 3, pos := "json.go:336", after := #[{ on := 1, ground := Ground.data }], guard := none }, { dst := some 69, op := Op.buildSlice 24 1 #[(0, Operand.const (Value.agg #[Value.int IntKind.i64 0, Value.bool false, Value.int IntKind.i64 0, Value.string { data := #[] }, Value.slice none 0 0, Value.slice none 0 0]))], type := 24, pos := "json.go:336", after := #[], guard := none }, { dst := some 70, op := Op.call { callee := Callee.builtin Builtin.append, args := #[Operand.tmp 65, Operand.tmp 69], argTypes := #[24, 24] }, type := 24, pos := "json.go:336", after := #[{ on := 1, ground := Ground.data }, { on := 5, ground := Ground.data }, { on := 3, ground := Ground.chain }, { on := 0, ground := Ground.phase }, { on := 1, ground := Ground.phase }, { on := 2, ground := Ground.phase }, { on := 3, ground := Ground.phase }, { on := 4, ground := Ground.phase }, { on := 5, ground := Ground.phase }], guard := none }, { dst := some 71, op := Op.indexAddr 24 (Operand.tmp 70) (Operand.tmp 68), type := 0, pos := "json.go:336", after := #[{ on := 6, ground := Ground.data }, { on := 4, ground := Ground.data }, { on := 0, ground := Ground.phase }, { on := 1, ground := Ground.phase }, { on := 2, ground := Ground.phase }, { on := 3, ground := Ground.phase }, { on := 4, ground := Ground.phase }, { on := 5, ground := Ground.phase }, { on := 6, ground := Ground.phase }, { on := 10, ground := Ground.gcOnly Departure.appendInPlace }], guard := none }, { dst := none, op := Op.store 26 (Operand.tmp 71) (Operand.tmp 67), type := 0, pos := "json.go:336", after := #[{ on := 7, ground := Ground.data }, { on := 3, ground := Ground.data }, { on := 6, ground := Ground.chain }, { on := 0, ground := Ground.phase }, { on := 1, ground := Ground.phase }, { on := 2, ground := Ground.phase }, { on := 3, ground := Ground.phase }, { on := 4, ground := Ground.phase }, { on := 5, ground := Ground.phase }, { on := 6, ground := Ground.phase }, { on := 10, ground := Ground.gcOnly Departure.appendInPlace }], guard := none }, { dst := some 72, op := Op.fieldAddr 26 (Operand.tmp 7) 5, type := 0, pos := "json.go:336", after := #[{ on := 0, ground := Ground.phase }, { on := 1, ground := Ground.phase }, { on := 2, ground := Ground.phase }, { on := 3, ground := Ground.phase }, { on := 4, ground := Ground.phase }, { on := 5, ground := Ground.phase }, { on := 6, ground := Ground.phase }, { on := 7, ground := Ground.textOnly Departure.appendInPlace }, { on := 8, ground := Ground.textOnly Departure.appendInPlace }], guard := none }, { dst := none, op := Op.store 24 (Operand.tmp 72) (Operand.tmp 70), type := 0, pos := "json.go:336", after := #[{ on := 9, ground := Ground.data }, { on := 6, ground := Ground.data }, { on := 6, ground := Ground.chain }, { on := 8, ground := Ground.textOnly Departure.appendInPlace }, { on := 0, ground := Ground.phase }, { on := 1, ground := Ground.phase }, { on := 2, ground := Ground.phase }, { on := 3, ground := Ground.phase }, { on := 4, ground := Ground.phase }, { on := 5, ground := Ground.phase }, { on := 6, ground := Ground.phase }, { on := 7, ground := Ground.textOnly Departure.appendInPlace }, { on := 8, ground := Ground.textOnly Departure.appendInPlace }], guard := none }]
def zeros26 : List Value := [.int .i64 0, .bool false, .int .i64 0, .string ⟨#[]⟩, .slice none 0 0, .slice none 0 0]
/-- What a call of value does at this nesting. -/
def ValOk (p : Value) (d : Int) (val : Bs → J × Bs × Option Int) : Prop :=
  ∀ (r : Nat) (s : Bs) (w : World), RS p w r s d none → s.length ≤ 1000000000 → Calls Tryz.prog 28 #[.pointer (some ⟨r, 0, none⟩)] w fun e w' =>
    ∃ kv lv, e = .returned (jVal (val s).1 kv lv) ∧ JAt w' (fun k => w.heap.size ≤ k) (val s).1 kv lv ∧ RS p w' r (val s).2.1 d (val s).2.2 ∧ Fr (· = r) w w'
/-- Where the item was appended. -/
structure Post16 (p : Value) (d : Int) (v : J) (s' : Bs) (o' : Option Int) (kind : Int) (r w0 : Nat) (ks : List Bs) (l : List J) (kv : Value) (A2 : Option Addr) (n2 : Nat) (cs : List Value) (wc : World) (d8 d10 : Bool) (x67 x70 : Value) (w : World) (g cap : Nat) (kvj lvj : Value) (w4 w5 : World) : Prop where
  e67 : x67 = jVal v kvj lvj
  e70 : x70 = .slice (some ⟨g, 0, none⟩) (l.length + 1) cap
  is : IS p r w0 (w0 + 1) (w0 + 1 + 1) (w0 + 3) kind w4 s' (d + 1) o' ks l kv (.slice A2 l.length n2) cs
  at4 : JAt w4 (fun k => wc.heap.size ≤ k) v kvj lvj
  f4 : Fr (· = r) wc w4
  f5 : Fr (fun k => some k = (Value.slice A2 l.length n2).ownBlock) w4 w5
  hg : (Value.slice A2 l.length n2).ownBlock = some g ∨ w4.heap.size ≤ g
  hB : w0 + 3 ≤ g
  fr : Fr (fun k => k = g ∨ k = (w0 + 1 + 1)) w5 w
  own : w.ownsRow (w0 + 3) 26 6 (.slice (some ⟨g, 0, none⟩) (l.length + 1) cap) (l.length + 1) (cs ++ (if d8 then jCells v kvj lvj else zeros26))
  hb : B26 w (w0 + 1 + 1) (.int .i64 kind) (.bool false) (.int .i64 0) (.string ⟨#[]⟩) kv (if d10 then .slice (some ⟨g, 0, none⟩) (l.length + 1) cap else .slice A2 l.length n2)
/-- What holds between two of its operations. -/
structure I16 (p : Value) (d : Int) (v : J) (s s' : Bs) (o' : Option Int) (kind : Int) (r w0 : Nat) (ks : List Bs) (l : List J) (kv : Value) (A2 : Option Addr) (n2 : Nat) (cs : List Value) (wc : World) (done : Nat → Bool) (x64 x65 x66 x67 x68 x69 x70 x71 x72 : Value) (w : World) : Prop where
  f0 : done 0 = true → x64 = .pointer (some ⟨(w0 + 1 + 1), 5, none⟩)
  f1 : done 1 = true → x65 = .slice A2 l.length n2
  f2 : done 2 = true → x66 = .pointer (some ⟨r, 0, none⟩)
  f4 : done 4 = true → x68 = .int .i64 l.length
  f5 : done 5 = true → done 6 = false → ∃ nb, x69 = .slice (some ⟨nb, 0, none⟩) 1 1 ∧ wc.heap.size ≤ nb ∧ w.heap[nb]? = some (.cells #[.int .i64 0, .bool false, .int .i64 0, .string ⟨#[]⟩, .slice none 0 0, .slice none 0 0] 26 (0, 0))
  f7 : done 7 = true → ∀ g n cap, x70 = .slice (some ⟨g, 0, none⟩) n cap → x71 = .pointer (some ⟨g, l.length * 6, none⟩)
  f9 : done 9 = true → x72 = .pointer (some ⟨(w0 + 1 + 1), 5, none⟩)
  cl : done 6 = true → done 0 = true ∧ done 1 = true ∧ done 2 = true ∧ done 3 = true ∧ done 4 = true ∧ done 5 = true
  c7 : done 7 = true → done 6 = true
  c8 : done 8 = true → done 6 = true
  c10 : done 10 = true → done 6 = true
  pre : done 3 = false → IS p r w0 (w0 + 1) (w0 + 1 + 1) (w0 + 3) kind w s (d + 1) none ks l kv (.slice A2 l.length n2) cs ∧ Fr none' wc w
  mid : done 3 = true → done 6 = false → ∃ kvj lvj, x67 = jVal v kvj lvj ∧ JAt w (fun k => wc.heap.size ≤ k) v kvj lvj ∧ IS p r w0 (w0 + 1) (w0 + 1 + 1) (w0 + 3) kind w s' (d + 1) o' ks l kv (.slice A2 l.length n2) cs ∧ Fr (· = r) wc w
  post : done 6 = true → ∃ g cap kvj lvj w4 w5, Post16 p d v s' o' kind r w0 ks l kv A2 n2 cs wc (done 8) (done 10) x67 x70 w g cap kvj lvj w4 w5
theorem I16.s0 {p : Value} {d : Int} {v : J} {s s' : Bs} {o' : Option Int} {kind : Int} {r w0 : Nat} {ks : List Bs} {l : List J} {kv : Value} {A2 : Option Addr} {n2 : Nat} {cs : List Value} {wc : World} {done : Nat → Bool} {x64 x65 x66 x67 x68 x69 x70 x71 x72 : Value} {w : World} (h : I16 p d v s s' o' kind r w0 ks l kv A2 n2 cs wc done x64 x65 x66 x67 x68 x69 x70 x71 x72 w) (hd : done 0 = false) :
    I16 p d v s s' o' kind r w0 ks l kv A2 n2 cs wc (fun k => k == 0 || done k) (.pointer (some ⟨(w0 + 1 + 1), 5, none⟩)) x65 x66 x67 x68 x69 x70 x71 x72 w where
  f0 := fun _ => rfl
  f1 := fun e => h.f1 (by simpa using e)
  f2 := fun e => h.f2 (by simpa using e)
  f4 := fun e => h.f4 (by simpa using e)
  f5 := fun e e' => h.f5 (by simpa using e) (by simpa using e')
  f7 := fun e => h.f7 (by simpa using e)
  f9 := fun e => h.f9 (by simpa using e)
  cl := fun e => by have := h.cl (by simpa using e); simp [this]
  c7 := fun e => by have := h.c7 (by simpa using e); simp [this]
  c8 := fun e => by have := h.c8 (by simpa using e); simp [this]
  c10 := fun e => by have := h.c10 (by simpa using e); simp [this]
  pre := fun e => h.pre (by simpa using e)
  mid := fun e e' => h.mid (by simpa using e) (by simpa using e')
  post := fun e => by simpa using h.post (by simpa using e)
theorem I16.s1 {p : Value} {d : Int} {v : J} {s s' : Bs} {o' : Option Int} {kind : Int} {r w0 : Nat} {ks : List Bs} {l : List J} {kv : Value} {A2 : Option Addr} {n2 : Nat} {cs : List Value} {wc : World} {done : Nat → Bool} {x64 x65 x66 x67 x68 x69 x70 x71 x72 : Value} {w : World} (h : I16 p d v s s' o' kind r w0 ks l kv A2 n2 cs wc done x64 x65 x66 x67 x68 x69 x70 x71 x72 w) (hd : done 1 = false) :
    I16 p d v s s' o' kind r w0 ks l kv A2 n2 cs wc (fun k => k == 1 || done k) x64 (.slice A2 l.length n2) x66 x67 x68 x69 x70 x71 x72 w where
  f0 := fun e => h.f0 (by simpa using e)
  f1 := fun _ => rfl
  f2 := fun e => h.f2 (by simpa using e)
  f4 := fun e => h.f4 (by simpa using e)
  f5 := fun e e' => h.f5 (by simpa using e) (by simpa using e')
  f7 := fun e => h.f7 (by simpa using e)
  f9 := fun e => h.f9 (by simpa using e)
  cl := fun e => by have := h.cl (by simpa using e); simp [this]
  c7 := fun e => by have := h.c7 (by simpa using e); simp [this]
  c8 := fun e => by have := h.c8 (by simpa using e); simp [this]
  c10 := fun e => by have := h.c10 (by simpa using e); simp [this]
  pre := fun e => h.pre (by simpa using e)
  mid := fun e e' => h.mid (by simpa using e) (by simpa using e')
  post := fun e => by simpa using h.post (by simpa using e)
theorem I16.s2 {p : Value} {d : Int} {v : J} {s s' : Bs} {o' : Option Int} {kind : Int} {r w0 : Nat} {ks : List Bs} {l : List J} {kv : Value} {A2 : Option Addr} {n2 : Nat} {cs : List Value} {wc : World} {done : Nat → Bool} {x64 x65 x66 x67 x68 x69 x70 x71 x72 : Value} {w : World} (h : I16 p d v s s' o' kind r w0 ks l kv A2 n2 cs wc done x64 x65 x66 x67 x68 x69 x70 x71 x72 w) (hd : done 2 = false) :
    I16 p d v s s' o' kind r w0 ks l kv A2 n2 cs wc (fun k => k == 2 || done k) x64 x65 (.pointer (some ⟨r, 0, none⟩)) x67 x68 x69 x70 x71 x72 w where
  f0 := fun e => h.f0 (by simpa using e)
  f1 := fun e => h.f1 (by simpa using e)
  f2 := fun _ => rfl
  f4 := fun e => h.f4 (by simpa using e)
  f5 := fun e e' => h.f5 (by simpa using e) (by simpa using e')
  f7 := fun e => h.f7 (by simpa using e)
  f9 := fun e => h.f9 (by simpa using e)
  cl := fun e => by have := h.cl (by simpa using e); simp [this]
  c7 := fun e => by have := h.c7 (by simpa using e); simp [this]
  c8 := fun e => by have := h.c8 (by simpa using e); simp [this]
  c10 := fun e => by have := h.c10 (by simpa using e); simp [this]
  pre := fun e => h.pre (by simpa using e)
  mid := fun e e' => h.mid (by simpa using e) (by simpa using e')
  post := fun e => by simpa using h.post (by simpa using e)
theorem I16.no6 {p : Value} {d : Int} {v : J} {s s' : Bs} {o' : Option Int} {kind : Int} {r w0 : Nat} {ks : List Bs} {l : List J} {kv : Value} {A2 : Option Addr} {n2 : Nat} {cs : List Value} {wc : World} {done : Nat → Bool} {x64 x65 x66 x67 x68 x69 x70 x71 x72 : Value} {w : World} (h : I16 p d v s s' o' kind r w0 ks l kv A2 n2 cs wc done x64 x65 x66 x67 x68 x69 x70 x71 x72 w) (hd : done 0 = false ∨ done 1 = false ∨ done 2 = false ∨ done 3 = false ∨ done 4 = false ∨ done 5 = false) : done 6 = false := by
  cases h6 : done 6 with
  | false => rfl
  | true =>
    obtain ⟨e0, e1, e2, e3, e4, e5⟩ := h.cl h6
    rw [e0, e1, e2, e3, e4, e5] at hd
    rcases hd with e | e | e | e | e | e <;> cases e
theorem I16.frame {p : Value} {d : Int} {v : J} {s s' : Bs} {o' : Option Int} {kind : Int} {r w0 : Nat} {ks : List Bs} {l : List J} {kv : Value} {A2 : Option Addr} {n2 : Nat} {cs : List Value} {wc : World} {done : Nat → Bool} {x64 x65 x66 x67 x68 x69 x70 x71 x72 : Value} {w : World} (h : I16 p d v s s' o' kind r w0 ks l kv A2 n2 cs wc done x64 x65 x66 x67 x68 x69 x70 x71 x72 w) (h6 : done 6 = false) : Fr (· = r) wc w ∧ w.cell? ⟨w0, 0, none⟩ = some (.pointer (some ⟨r, 0, none⟩)) ∧ B26 w (w0 + 1 + 1) (.int .i64 kind) (.bool false) (.int .i64 0) (.string ⟨#[]⟩) kv (.slice A2 l.length n2) := by
  cases h3 : done 3 with
  | false => exact ⟨(h.pre h3).2.mono (fun _ e => e.elim), (h.pre h3).1.cb, (h.pre h3).1.b⟩
  | true =>
    obtain ⟨kvj, lvj, _, _, hI, hF⟩ := h.mid h3 h6
    exact ⟨hF, hI.cb, hI.b⟩
theorem I16.s3 {p : Value} {d : Int} {v : J} {s s' : Bs} {o' : Option Int} {kind : Int} {r w0 : Nat} {ks : List Bs} {l : List J} {kv : Value} {A2 : Option Addr} {n2 : Nat} {cs : List Value} {wc : World} {done : Nat → Bool} {x64 x65 x66 x67 x68 x69 x70 x71 x72 : Value} {w : World} (h : I16 p d v s s' o' kind r w0 ks l kv A2 n2 cs wc done x64 x65 x66 x67 x68 x69 x70 x71 x72 w) (hd : done 3 = false) {kvj lvj : Value} {w4 : World} (HO : IOrd r w0 (w0 + 1) (w0 + 1 + 1) (w0 + 3)) (hr : r < wc.heap.size) (T4 : JAt w4 (fun k => w.heap.size ≤ k) v kvj lvj) (R4 : RS p w4 r s' (d + 1) o') (f4 : Fr (· = r) w w4) :
    I16 p d v s s' o' kind r w0 ks l kv A2 n2 cs wc (fun k => k == 3 || done k) x64 x65 x66 (jVal v kvj lvj) x68 x69 x70 x71 x72 w4 where
  f0 := fun e => h.f0 (by simpa using e)
  f1 := fun e => h.f1 (by simpa using e)
  f2 := fun e => h.f2 (by simpa using e)
  f4 := fun e => h.f4 (by simpa using e)
  f5 := fun e e' => by
    obtain ⟨nb, e1, e2, e3⟩ := h.f5 (by simpa using e) (by simpa using e')
    exact ⟨nb, e1, e2, f4.get e3 (by omega)⟩
  f7 := fun e => h.f7 (by simpa using e)
  f9 := fun e => h.f9 (by simpa using e)
  cl := fun e => by have := h.cl (by simpa using e); simp [this]
  c7 := fun e => by have := h.c7 (by simpa using e); simp [this]
  c8 := fun e => by have := h.c8 (by simpa using e); simp [this]
  c10 := fun e => by have := h.c10 (by simpa using e); simp [this]
  pre := fun e => by simp at e
  mid := fun _ _ => ⟨kvj, lvj, rfl, T4.mono (fun k hk _ => Nat.le_trans (h.pre hd).2.size hk), (h.pre hd).1.read HO R4 f4, ((h.pre hd).2.mono (fun _ e => e.elim)).trans f4⟩
  post := fun e => by have := h.no6 (.inr (.inr (.inr (.inl hd)))); simp [this] at e
theorem I16.s4 {p : Value} {d : Int} {v : J} {s s' : Bs} {o' : Option Int} {kind : Int} {r w0 : Nat} {ks : List Bs} {l : List J} {kv : Value} {A2 : Option Addr} {n2 : Nat} {cs : List Value} {wc : World} {done : Nat → Bool} {x64 x65 x66 x67 x68 x69 x70 x71 x72 : Value} {w : World} (h : I16 p d v s s' o' kind r w0 ks l kv A2 n2 cs wc done x64 x65 x66 x67 x68 x69 x70 x71 x72 w) (hd : done 4 = false) :
    I16 p d v s s' o' kind r w0 ks l kv A2 n2 cs wc (fun k => k == 4 || done k) x64 x65 x66 x67 (.int .i64 l.length) x69 x70 x71 x72 w where
  f0 := fun e => h.f0 (by simpa using e)
  f1 := fun e => h.f1 (by simpa using e)
  f2 := fun e => h.f2 (by simpa using e)
  f4 := fun _ => rfl
  f5 := fun e e' => h.f5 (by simpa using e) (by simpa using e')
  f7 := fun e => h.f7 (by simpa using e)
  f9 := fun e => h.f9 (by simpa using e)
  cl := fun e => by have := h.cl (by simpa using e); simp [this]
  c7 := fun e => by have := h.c7 (by simpa using e); simp [this]
  c8 := fun e => by have := h.c8 (by simpa using e); simp [this]
  c10 := fun e => by have := h.c10 (by simpa using e); simp [this]
  pre := fun e => h.pre (by simpa using e)
  mid := fun e e' => h.mid (by simpa using e) (by simpa using e')
  post := fun e => by simpa using h.post (by simpa using e)
theorem I16.s5 {p : Value} {d : Int} {v : J} {s s' : Bs} {o' : Option Int} {kind : Int} {r w0 : Nat} {ks : List Bs} {l : List J} {kv : Value} {A2 : Option Addr} {n2 : Nat} {cs : List Value} {wc : World} {done : Nat → Bool} {x64 x65 x66 x67 x68 x69 x70 x71 x72 : Value} {w : World} (h : I16 p d v s s' o' kind r w0 ks l kv A2 n2 cs wc done x64 x65 x66 x67 x68 x69 x70 x71 x72 w) (hd : done 5 = false) :
    I16 p d v s s' o' kind r w0 ks l kv A2 n2 cs wc (fun k => k == 5 || done k) x64 x65 x66 x67 x68 (.slice (some ⟨w.heap.size, 0, none⟩) 1 1) x70 x71 x72 (w.alloc (.cells #[.int .i64 0, .bool false, .int .i64 0, .string ⟨#[]⟩, .slice none 0 0, .slice none 0 0] 26 (0, 0))) where
  f0 := fun e => h.f0 (by simpa using e)
  f1 := fun e => h.f1 (by simpa using e)
  f2 := fun e => h.f2 (by simpa using e)
  f4 := fun e => h.f4 (by simpa using e)
  f5 := fun e e' => ⟨w.heap.size, rfl, (h.frame (h.no6 (.inr (.inr (.inr (.inr (.inr hd))))))).1.size, alloc_new _ _⟩
  f7 := fun e => h.f7 (by simpa using e)
  f9 := fun e => h.f9 (by simpa using e)
  cl := fun e => by have := h.cl (by simpa using e); simp [this]
  c7 := fun e => by have := h.c7 (by simpa using e); simp [this]
  c8 := fun e => by have := h.c8 (by simpa using e); simp [this]
  c10 := fun e => by have := h.c10 (by simpa using e); simp [this]
  pre := fun e => ⟨(h.pre (by simpa using e)).1.fr0 ((Fr.refl _ _).alloc _), (h.pre (by simpa using e)).2.alloc _⟩
  mid := fun e e' => by
    obtain ⟨kvj, lvj, e1, T, hI, hF⟩ := h.mid (by simpa using e) (by simpa using e')
    exact ⟨kvj, lvj, e1, (T.fr ((Fr.refl none' _).alloc _) (fun _ _ => id)), hI.fr0 ((Fr.refl _ _).alloc _), hF.alloc _⟩
  post := fun e => by have := h.no6 (.inr (.inr (.inr (.inr (.inr hd))))); simp [this] at e
theorem I16.s6 {p : Value} {d : Int} {v : J} {s s' : Bs} {o' : Option Int} {kind : Int} {r w0 : Nat} {ks : List Bs} {l : List J} {kv : Value} {A2 : Option Addr} {n2 : Nat} {cs : List Value} {wc : World} {done : Nat → Bool} {x64 x65 x66 x67 x68 x69 x70 x71 x72 : Value} {w : World} (h : I16 p d v s s' o' kind r w0 ks l kv A2 n2 cs wc done x64 x65 x66 x67 x68 x69 x70 x71 x72 w) (hd : done 6 = false) {g cap : Nat} {w5 : World} (HO : IOrd r w0 (w0 + 1) (w0 + 1 + 1) (w0 + 3)) (h0 : done 0 = true) (h1 : done 1 = true) (h2 : done 2 = true) (h3 : done 3 = true) (h4 : done 4 = true) (h5 : done 5 = true)
    (hown : w5.ownsRow (w0 + 3) 26 6 (.slice (some ⟨g, 0, none⟩) (l.length + 1) cap) (l.length + 1) (cs ++ zeros26)) (hf : Fr (fun k => some k = (Value.slice A2 l.length n2).ownBlock) w w5) (hat : (Value.slice A2 l.length n2).ownBlock = some g ∨ w.heap.size ≤ g) :
    I16 p d v s s' o' kind r w0 ks l kv A2 n2 cs wc (fun k => k == 6 || done k) x64 x65 x66 x67 x68 x69 (.slice (some ⟨g, 0, none⟩) (l.length + 1) cap) x71 x72 w5 where
  f0 := fun e => h.f0 (by simpa using e)
  f1 := fun e => h.f1 (by simpa using e)
  f2 := fun e => h.f2 (by simpa using e)
  f4 := fun e => h.f4 (by simpa using e)
  f5 := fun e e' => by simp at e'
  f7 := fun e => by
    have e7 : done 7 = false := by
      cases e7 : done 7 with
      | false => rfl
      | true => have := h.c7 e7; rw [hd] at this; cases this
    simp [e7] at e
  f9 := fun e => h.f9 (by simpa using e)
  cl := fun _ => by simp [h0, h1, h2, h3, h4, h5]
  c7 := fun _ => by simp
  c8 := fun _ => by simp
  c10 := fun _ => by simp
  pre := fun e => by simp [h3] at e
  mid := fun _ e => by simp at e
  post := fun _ => by
    obtain ⟨kvj, lvj, e1, T, hI, hF⟩ := h.mid h3 hd
    have e8 : done 8 = false := by
      cases e8 : done 8 with
      | false => rfl
      | true => have := h.c8 e8; rw [hd] at this; cases this
    have e10 : done 10 = false := by
      cases e10 : done 10 with
      | false => rfl
      | true => have := h.c10 e10; rw [hd] at this; cases this
    have hB := (ownsRow_ge hown rfl).1
    have o3 := HO.h3
    have o4 := HO.h4
    refine ⟨g, cap, kvj, lvj, w, w5, { e67 := e1, e70 := rfl, is := hI, at4 := T, f4 := hF, f5 := hf, hg := hat, hB := hB, fr := Fr.refl _ _, own := by simpa [e8] using hown, hb := ?_ }⟩
    have := hI.b.fr hf (fun e => by have := (ownsRow_ge hI.lr e.symm).1; omega)
    simpa [e10] using this
theorem I16.s7 {p : Value} {d : Int} {v : J} {s s' : Bs} {o' : Option Int} {kind : Int} {r w0 : Nat} {ks : List Bs} {l : List J} {kv : Value} {A2 : Option Addr} {n2 : Nat} {cs : List Value} {wc : World} {done : Nat → Bool} {x64 x65 x66 x67 x68 x69 x70 x71 x72 : Value} {w : World} (h : I16 p d v s s' o' kind r w0 ks l kv A2 n2 cs wc done x64 x65 x66 x67 x68 x69 x70 x71 x72 w) (hd : done 7 = false) {g n cap : Nat} (h70 : x70 = .slice (some ⟨g, 0, none⟩) n cap) (h6 : done 6 = true) :
    I16 p d v s s' o' kind r w0 ks l kv A2 n2 cs wc (fun k => k == 7 || done k) x64 x65 x66 x67 x68 x69 x70 (.pointer (some ⟨g, l.length * 6, none⟩)) x72 w where
  f0 := fun e => h.f0 (by simpa using e)
  f1 := fun e => h.f1 (by simpa using e)
  f2 := fun e => h.f2 (by simpa using e)
  f4 := fun e => h.f4 (by simpa using e)
  f5 := fun e e' => h.f5 (by simpa using e) (by simpa using e')
  f7 := fun _ g' n' cap' e => by
    rw [h70] at e
    injection e with e _ _
    injection e with e
    injection e with e
    rw [e]
  f9 := fun e => h.f9 (by simpa using e)
  cl := fun e => by have := h.cl (by simpa using e); simp [this]
  c7 := fun _ => by simp [h6]
  c8 := fun e => by have := h.c8 (by simpa using e); simp [this]
  c10 := fun e => by have := h.c10 (by simpa using e); simp [this]
  pre := fun e => h.pre (by simpa using e)
  mid := fun e e' => h.mid (by simpa using e) (by simpa using e')
  post := fun e => by simpa using h.post (by simpa using e)
theorem I16.s8 {p : Value} {d : Int} {v : J} {s s' : Bs} {o' : Option Int} {kind : Int} {r w0 : Nat} {ks : List Bs} {l : List J} {kv : Value} {A2 : Option Addr} {n2 : Nat} {cs : List Value} {wc : World} {done : Nat → Bool} {x64 x65 x66 x67 x68 x69 x70 x71 x72 : Value} {w : World} (h : I16 p d v s s' o' kind r w0 ks l kv A2 n2 cs wc done x64 x65 x66 x67 x68 x69 x70 x71 x72 w) (hd : done 8 = false) {g cap : Nat} {kvj lvj : Value} {w4 w5 : World} (HO : IOrd r w0 (w0 + 1) (w0 + 1 + 1) (w0 + 3)) (h6 : done 6 = true) (q : Post16 p d v s' o' kind r w0 ks l kv A2 n2 cs wc (done 8) (done 10) x67 x70 w g cap kvj lvj w4 w5) :
    I16 p d v s s' o' kind r w0 ks l kv A2 n2 cs wc (fun k => k == 8 || done k) x64 x65 x66 x67 x68 x69 x70 x71 x72 ((((((w.setCell ⟨g, l.length * 6, none⟩ (.int .i64 v.kind)).setCell ⟨g, l.length * 6 + 1, none⟩ (.bool v.yes)).setCell ⟨g, l.length * 6 + 2, none⟩ (.int .i64 v.n)).setCell ⟨g, l.length * 6 + 3, none⟩ (.string (bs v.s))).setCell ⟨g, l.length * 6 + 4, none⟩ kvj).setCell ⟨g, l.length * 6 + 5, none⟩ lvj) where
  f0 := fun e => h.f0 (by simpa using e)
  f1 := fun e => h.f1 (by simpa using e)
  f2 := fun e => h.f2 (by simpa using e)
  f4 := fun e => h.f4 (by simpa using e)
  f5 := fun _ e => by simp [h6] at e
  f7 := fun e => h.f7 (by simpa using e)
  f9 := fun e => h.f9 (by simpa using e)
  cl := fun e => by have := h.cl (by simpa using e); simp [this]
  c7 := fun e => by have := h.c7 (by simpa using e); simp [this]
  c8 := fun _ => by simp [h6]
  c10 := fun e => by have := h.c10 (by simpa using e); simp [this]
  pre := fun e => by have := (h.cl h6).2.2.2.1; simp [this] at e
  mid := fun _ e => by simp [h6] at e
  post := fun _ => by
    have hcs : cs.length = l.length * 6 := q.is.c.length
    have o3 := HO.h3
    have o4 := HO.h4
    have hgB := q.hB
    have hgb : g ≠ (w0 + 1 + 1) := by omega
    have own := q.own
    rw [hd] at own
    refine ⟨g, cap, kvj, lvj, w4, w5, { e67 := q.e67, e70 := q.e70, is := q.is, at4 := q.at4, f4 := q.f4, f5 := q.f5, hg := q.hg, hB := q.hB, fr := q.fr.trans (fr_put6 (mm := fun k => k = g ∨ k = (w0 + 1 + 1)) (.inl rfl) (.int .i64 v.kind) (.bool v.yes) (.int .i64 v.n) (.string (bs v.s)) kvj lvj), own := ?_, hb := ?_ }⟩
    · have := own_put6 (z0 := .int .i64 0) (z1 := .bool false) (z2 := .int .i64 0) (z3 := .string ⟨#[]⟩) (z4 := .slice none 0 0) (z5 := .slice none 0 0) own hcs (.int .i64 v.kind) (.bool v.yes) (.int .i64 v.n) (.string (bs v.s)) kvj lvj
      simpa [jCells] using this
    · have := q.hb.fr (fr_put6 (mm := (· = g)) (m := l.length * 6) rfl (.int .i64 v.kind) (.bool v.yes) (.int .i64 v.n) (.string (bs v.s)) kvj lvj) (fun e => hgb e.symm)
      simpa using this
theorem I16.s9 {p : Value} {d : Int} {v : J} {s s' : Bs} {o' : Option Int} {kind : Int} {r w0 : Nat} {ks : List Bs} {l : List J} {kv : Value} {A2 : Option Addr} {n2 : Nat} {cs : List Value} {wc : World} {done : Nat → Bool} {x64 x65 x66 x67 x68 x69 x70 x71 x72 : Value} {w : World} (h : I16 p d v s s' o' kind r w0 ks l kv A2 n2 cs wc done x64 x65 x66 x67 x68 x69 x70 x71 x72 w) (hd : done 9 = false) :
    I16 p d v s s' o' kind r w0 ks l kv A2 n2 cs wc (fun k => k == 9 || done k) x64 x65 x66 x67 x68 x69 x70 x71 (.pointer (some ⟨(w0 + 1 + 1), 5, none⟩)) w where
  f0 := fun e => h.f0 (by simpa using e)
  f1 := fun e => h.f1 (by simpa using e)
  f2 := fun e => h.f2 (by simpa using e)
  f4 := fun e => h.f4 (by simpa using e)
  f5 := fun e e' => h.f5 (by simpa using e) (by simpa using e')
  f7 := fun e => h.f7 (by simpa using e)
  f9 := fun _ => rfl
  cl := fun e => by have := h.cl (by simpa using e); simp [this]
  c7 := fun e => by have := h.c7 (by simpa using e); simp [this]
  c8 := fun e => by have := h.c8 (by simpa using e); simp [this]
  c10 := fun e => by have := h.c10 (by simpa using e); simp [this]
  pre := fun e => h.pre (by simpa using e)
  mid := fun e e' => h.mid (by simpa using e) (by simpa using e')
  post := fun e => by simpa using h.post (by simpa using e)
theorem I16.s10 {p : Value} {d : Int} {v : J} {s s' : Bs} {o' : Option Int} {kind : Int} {r w0 : Nat} {ks : List Bs} {l : List J} {kv : Value} {A2 : Option Addr} {n2 : Nat} {cs : List Value} {wc : World} {done : Nat → Bool} {x64 x65 x66 x67 x68 x69 x70 x71 x72 : Value} {w : World} (h : I16 p d v s s' o' kind r w0 ks l kv A2 n2 cs wc done x64 x65 x66 x67 x68 x69 x70 x71 x72 w) (hd : done 10 = false) {g cap : Nat} {kvj lvj : Value} {w4 w5 : World} (HO : IOrd r w0 (w0 + 1) (w0 + 1 + 1) (w0 + 3)) (h6 : done 6 = true) (q : Post16 p d v s' o' kind r w0 ks l kv A2 n2 cs wc (done 8) (done 10) x67 x70 w g cap kvj lvj w4 w5) :
    I16 p d v s s' o' kind r w0 ks l kv A2 n2 cs wc (fun k => k == 10 || done k) x64 x65 x66 x67 x68 x69 x70 x71 x72 (w.setCell ⟨(w0 + 1 + 1), 5, none⟩ (.slice (some ⟨g, 0, none⟩) (l.length + 1) cap)) where
  f0 := fun e => h.f0 (by simpa using e)
  f1 := fun e => h.f1 (by simpa using e)
  f2 := fun e => h.f2 (by simpa using e)
  f4 := fun e => h.f4 (by simpa using e)
  f5 := fun _ e => by simp [h6] at e
  f7 := fun e => h.f7 (by simpa using e)
  f9 := fun e => h.f9 (by simpa using e)
  cl := fun e => by have := h.cl (by simpa using e); simp [this]
  c7 := fun e => by have := h.c7 (by simpa using e); simp [this]
  c8 := fun e => by have := h.c8 (by simpa using e); simp [this]
  c10 := fun _ => by simp [h6]
  pre := fun e => by have := (h.cl h6).2.2.2.1; simp [this] at e
  mid := fun _ e => by simp [h6] at e
  post := fun _ => by
    have o3 := HO.h3
    have o4 := HO.h4
    have hgB := q.hB
    have hgb : g ≠ (w0 + 1 + 1) := by omega
    refine ⟨g, cap, kvj, lvj, w4, w5, { e67 := q.e67, e70 := q.e70, is := q.is, at4 := q.at4, f4 := q.f4, f5 := q.f5, hg := q.hg, hB := q.hB, fr := q.fr.trans (Fr.set' (w0 + 1 + 1) 5 _ (.inr rfl)), own := ?_, hb := ?_ }⟩
    · have := ownsRow_fr q.own (Fr.set' (m := (· = (w0 + 1 + 1))) (w0 + 1 + 1) 5 (.slice (some ⟨g, 0, none⟩) (l.length + 1) cap) rfl) (fun k hk e => by injection hk with hk; exact hgb (hk.trans e))
      simpa using this
    · have := q.hb.put5 (.slice (some ⟨g, 0, none⟩) (l.length + 1) cap)
      simpa using this

theorem ops16_dag : dagB ops16.toList = true := by kernel_rfl
theorem ops16_deps : ops16.toList.map depsOf = [[], [0], [], [2], [1], [], [1, 5, 3, 0, 1, 2, 3, 4, 5], [6, 4, 0, 1, 2, 3, 4, 5, 6], [7, 3, 6, 0, 1, 2, 3, 4, 5, 6], [0, 1, 2, 3, 4, 5, 6], [9, 6, 6, 0, 1, 2, 3, 4, 5, 6]] := by kernel_rfl

set_option maxHeartbeats 8000000 in
set_option maxRecDepth 100000 in
theorem items16 (p : Value) (d : Int) (val : Bs → J × Bs × Option Int) (HV : ValOk p (d + 1) val)
    (kind : Int) (r w0 : Nat) (s : Bs) (ks : List Bs) (l : List J) (kv lv : Value) (cs : List Value) (wc : World) (I : IS p r w0 (w0 + 1) (w0 + 1 + 1) (w0 + 3) kind wc s (d + 1) none ks l kv lv cs) (HO : IOrd r w0 (w0 + 1) (w0 + 1 + 1) (w0 + 3)) (hl3 : s.length ≤ 1000000000) (hll : l.length ≤ 1000000000)
    (Q : Exit → Act → World → Prop) (ds : List Deferred) (u0 u1 u2 u4 u5 u6 u8 u9 u10 u11 u12 u13 u14 u15 u16 u17 u18 u19 u20 u21 u22 u23 u24 u25 u26 u27 u28 u29 u30 u31 u32 u33 u34 u35 u36 u37 u38 u39 u40 u41 u42 u43 u44 u45 u46 u47 u48 u49 u50 u51 u52 u53 u54 u55 u56 u57 u58 u59 u60 u61 u62 u63 u64 u65 u66 u67 u68 u69 u70 u71 u72 u73 u74 u75 u76 u77 u78 u79 u80 u81 u82 u83 u84 u85 u86 u87 u88 u89 u90 u91 u92 u93 u94 u95 u96 u97 u98 u99 : Value)
    (hQ : ∀ (x64 x65 x66 x67 x68 x69 x70 x71 x72 : Value) (w' : World) (lv' : Value) (cs' : List Value), IS p r w0 (w0 + 1) (w0 + 1 + 1) (w0 + 3) kind w' (val s).2.1 (d + 1) (val s).2.2 ks (l ++ [(val s).1]) kv lv' cs' → Fr (fun k => k = r ∨ w0 ≤ k) wc w' → Q .normal { tmps := #[u0, u1, u2, .pointer (some ⟨w0, 0, none⟩), u4, u5, u6, .pointer (some ⟨(w0 + 1 + 1), 0, none⟩), u8, u9, u10, u11, u12, u13, u14, u15, u16, u17, u18, u19, u20, u21, u22, u23, u24, u25, u26, u27, u28, u29, u30, u31, u32, u33, u34, u35, u36, u37, u38, u39, u40, u41, u42, u43, u44, u45, u46, u47, u48, u49, u50, u51, u52, u53, u54, u55, u56, u57, u58, u59, u60, u61, u62, u63, x64, x65, x66, x67, x68, x69, x70, x71, x72, u73, u74, u75, u76, u77, u78, u79, u80, u81, u82, u83, u84, u85, u86, u87, u88, u89, u90, u91, u92, u93, u94, u95, u96, u97, u98, u99], defers := ds } w') :
    (Code.region 16 ops16 true).wp Tryz.prog Q { tmps := #[u0, u1, u2, .pointer (some ⟨w0, 0, none⟩), u4, u5, u6, .pointer (some ⟨(w0 + 1 + 1), 0, none⟩), u8, u9, u10, u11, u12, u13, u14, u15, u16, u17, u18, u19, u20, u21, u22, u23, u24, u25, u26, u27, u28, u29, u30, u31, u32, u33, u34, u35, u36, u37, u38, u39, u40, u41, u42, u43, u44, u45, u46, u47, u48, u49, u50, u51, u52, u53, u54, u55, u56, u57, u58, u59, u60, u61, u62, u63, u64, u65, u66, u67, u68, u69, u70, u71, u72, u73, u74, u75, u76, u77, u78, u79, u80, u81, u82, u83, u84, u85, u86, u87, u88, u89, u90, u91, u92, u93, u94, u95, u96, u97, u98, u99], defers := ds } wc := by
  obtain ⟨A2, n2, rfl⟩ := own_form I.lr
  have HI := Lib.hid I
  have HQ := Lib.hid hQ
  have HVV := Lib.hid HV
  have HOO := Lib.hid HO
  clear I hQ HV HO
  refine region_inv (Inv := (fun done a w => ∃ (x64 x65 x66 x67 x68 x69 x70 x71 x72 : Value), a = { tmps := #[u0, u1, u2, .pointer (some ⟨w0, 0, none⟩), u4, u5, u6, .pointer (some ⟨(w0 + 1 + 1), 0, none⟩), u8, u9, u10, u11, u12, u13, u14, u15, u16, u17, u18, u19, u20, u21, u22, u23, u24, u25, u26, u27, u28, u29, u30, u31, u32, u33, u34, u35, u36, u37, u38, u39, u40, u41, u42, u43, u44, u45, u46, u47, u48, u49, u50, u51, u52, u53, u54, u55, u56, u57, u58, u59, u60, u61, u62, u63, x64, x65, x66, x67, x68, x69, x70, x71, x72, u73, u74, u75, u76, u77, u78, u79, u80, u81, u82, u83, u84, u85, u86, u87, u88, u89, u90, u91, u92, u93, u94, u95, u96, u97, u98, u99], defers := ds } ∧ Hid (I16 p d (val s).1 s (val s).2.1 (val s).2.2 kind r w0 ks l kv A2 n2 cs wc done x64 x65 x66 x67 x68 x69 x70 x71 x72 w))) (by kernel_rfl) (dag_of ops16_dag) ops16_deps ?_ ?_ ?_
  · exact ⟨_, _, _, _, _, _, _, _, _, rfl, Lib.hid { f0 := (fun e => nomatch e), f1 := (fun e => nomatch e), f2 := (fun e => nomatch e), f4 := (fun e => nomatch e), f5 := (fun e => nomatch e), f7 := (fun e => nomatch e), f9 := (fun e => nomatch e), cl := (fun e => nomatch e), c7 := (fun e => nomatch e), c8 := (fun e => nomatch e), c10 := (fun e => nomatch e), pre := fun _ => ⟨HI.out.fr0 ((Fr.refl none' _).drew), (Fr.refl _ _).drew⟩, mid := (fun e => nomatch e), post := (fun e => nomatch e) }⟩
  · obtain ⟨i26, hi, hz0, hz1, hz2⟩ := info_parts Jz.info26
    have hb0 : (0 : Int) ≤ (l.length : Int) := Int.natCast_nonneg _
    have hb1 : (l.length : Int) < (l.length : Int) + 1 := by omega
    have hb2 : (l.length : Int) < ((l.length + 1 : Nat) : Int) := by omega
    unfold ops16
    refine ⟨?_, ?_, ?_, ?_, ?_, ?_, ?_, ?_, ?_, ?_, ?_, trivial⟩
    all_goals
      rintro done a w hd hdep ⟨x64, x65, x66, x67, x68, x69, x70, x71, x72, rfl, H⟩ K hK
      have HK := Lib.hid hK
      clear hK
    · go_simp
      exact HK.out _ _ ⟨_, _, _, _, _, _, _, _, _, rfl, Lib.hid (H.out.s0 hd)⟩
    · obtain rfl := H.out.f0 (hdep 0 (by simp))
      have hfr := H.out.frame (H.out.no6 (.inr (.inl hd)))
      have c5 := hfr.2.2.c5
      clear hfr
      go_simp
      exact HK.out _ _ ⟨_, _, _, _, _, _, _, _, _, rfl, Lib.hid (H.out.s1 hd)⟩
    · have hfr := H.out.frame (H.out.no6 (.inr (.inr (.inl hd))))
      have c5 := hfr.2.1
      clear hfr
      go_simp
      exact HK.out _ _ ⟨_, _, _, _, _, _, _, _, _, rfl, Lib.hid (H.out.s2 hd)⟩
    · obtain rfl := H.out.f2 (hdep 2 (by simp))
      have HP := Lib.hid (H.out.pre hd)
      go_simp
      refine (HVV.out r s _ HP.out.1.rs hl3).mono ?_
      rintro e w4 ⟨kvj, lvj, rfl, T4, R4, f4⟩
      exact HK.out _ _ ⟨_, _, _, _, _, _, _, _, _, rfl, Lib.hid (H.out.s3 hd HOO.out HI.out.rs.rd.lt T4 R4 f4)⟩
    · obtain rfl := H.out.f1 (hdep 1 (by simp))
      go_simp
      exact HK.out _ _ ⟨_, _, _, _, _, _, _, _, _, rfl, Lib.hid (H.out.s4 hd)⟩
    · go_simp
      exact HK.out _ _ ⟨_, _, _, _, _, _, _, _, _, rfl, Lib.hid (H.out.s5 hd)⟩
    · obtain rfl := H.out.f1 (hdep 1 (by simp))
      obtain ⟨nb, rfl, hnb, hnw⟩ := H.out.f5 (hdep 5 (by simp)) hd
      obtain ⟨kvj, lvj, e67, T4, hI, hF⟩ := H.out.mid (hdep 3 (by simp)) hd
      have HII := Lib.hid hI
      have HHF := Lib.hid hF
      have HNW := Lib.hid hnw
      have hcs : cs.length = l.length * 6 := hI.c.length
      clear hI hF hnw T4 e67
      refine step_append_lies _ (by rfl) (.tmp 65) (.tmp 69) 24 (by rfl) (w0 + 3) 26 i26 _ 6 88 Tryz.underlying24 hi hz0 hz1 hz2 rfl (by decide) (.slice A2 l.length n2) l.length cs (by rfl) ?hown _ 1 1 [.int .i64 0, .bool false, .int .i64 0, .string ⟨#[]⟩, .slice none 0 0, .slice none 0 0] (by rfl) (by rfl) ?hnews ?h1 (by omega) ?h63 ?hby ?hbase _ rfl ?_
      case hown => exact HII.out.lr
      case hnews => exact World.news_of_block (cs := #[.int .i64 0, .bool false, .int .i64 0, .string ⟨#[]⟩, .slice none 0 0, .slice none 0 0]) (t := 26) (fr := (0, 0)) HNW.out
      case h1 => intro u hu; simp at hu; rcases hu with rfl | rfl | rfl | rfl | rfl | rfl <;> rfl
      case h63 => unfold maxLen; omega
      case hby => omega
      case hbase => exact HII.out.sz
      intro gg cap w5 hown5 hgrow5 hat5 hlt5
      exact HK.out _ _ ⟨_, _, _, _, _, _, _, _, _, rfl, Lib.hid (H.out.s6 hd HOO.out (hdep 0 (by simp)) (hdep 1 (by simp)) (hdep 2 (by simp)) (hdep 3 (by simp)) (hdep 4 (by simp)) (hdep 5 (by simp)) hown5 (Fr.of_grown hgrow5) (hat5.imp id (fun e => Nat.le_of_eq e.symm)))⟩
    · obtain ⟨g, cap, kvj, lvj, w4, w5, q⟩ := H.out.post (hdep 6 (by simp))
      obtain rfl := q.e70
      obtain rfl := H.out.f4 (hdep 4 (by simp))
      clear q
      go_simp
      exact HK.out _ _ ⟨_, _, _, _, _, _, _, _, _, rfl, Lib.hid (H.out.s7 hd rfl (hdep 6 (by simp)))⟩
    · obtain ⟨g, cap, kvj, lvj, w4, w5, q⟩ := H.out.post (hdep 6 (by simp))
      obtain ⟨jA, jn, jc, jA', jn', jc', rfl, rfl⟩ := q.at4.form
      obtain rfl := q.e70
      obtain rfl := q.e67
      obtain rfl := H.out.f7 (hdep 7 (by simp)) _ _ _ rfl
      have hcs : cs.length = l.length * 6 := q.is.c.length
      have own := q.own
      rw [hd] at own
      have HQ2 := Lib.hid q
      have q0 := own_cell own (i := l.length * 6) (u := .int .i64 0) (by rw [List.getElem?_append_right (by rw [hcs]; omega), hcs]; simp [zeros26])
      have q1 := own_cell own (i := l.length * 6 + 1) (u := .bool false) (by rw [List.getElem?_append_right (by rw [hcs]; omega), hcs]; simp [zeros26])
      have q2 := own_cell own (i := l.length * 6 + 2) (u := .int .i64 0) (by rw [List.getElem?_append_right (by rw [hcs]; omega), hcs]; simp [zeros26])
      have q3 := own_cell own (i := l.length * 6 + 3) (u := .string ⟨#[]⟩) (by rw [List.getElem?_append_right (by rw [hcs]; omega), hcs]; simp [zeros26])
      have q4 := own_cell own (i := l.length * 6 + 4) (u := .slice none 0 0) (by rw [List.getElem?_append_right (by rw [hcs]; omega), hcs]; simp [zeros26])
      have q5 := own_cell own (i := l.length * 6 + 5) (u := .slice none 0 0) (by rw [List.getElem?_append_right (by rw [hcs]; omega), hcs]; simp [zeros26])
      clear own q hcs
      have q0a := q0.1
      have q0b := q0.2
      have q1a := q1.1
      have q1b := q1.2
      have q2a := q2.1
      have q2b := q2.2
      have q3a := q3.1
      have q3b := q3.2
      have q4a := q4.1
      have q4b := q4.2
      have q5a := q5.1
      have q5b := q5.2
      clear q0 q1 q2 q3 q4 q5
      unfold jVal
      go_simp
      exact HK.out _ _ ⟨_, _, _, _, _, _, _, _, _, rfl, Lib.hid (H.out.s8 hd HOO.out (hdep 6 (by simp)) HQ2.out)⟩
    · go_simp
      exact HK.out _ _ ⟨_, _, _, _, _, _, _, _, _, rfl, Lib.hid (H.out.s9 hd)⟩
    · obtain ⟨g, cap, kvj, lvj, w4, w5, q⟩ := H.out.post (hdep 6 (by simp))
      obtain rfl := q.e70
      obtain rfl := H.out.f9 (hdep 9 (by simp))
      have HQ2 := Lib.hid q
      have c5 := q.hb.c5
      have z5 := q.hb.fz 5
      clear q
      go_simp
      exact HK.out _ _ ⟨_, _, _, _, _, _, _, _, _, rfl, Lib.hid (H.out.s10 hd HOO.out (hdep 6 (by simp)) HQ2.out)⟩
  · rintro done a w hall ⟨x64, x65, x66, x67, x68, x69, x70, x71, x72, rfl, H⟩
    obtain ⟨g, cap, kvj, lvj, w4, w5, q⟩ := H.out.post (hall 6 (by decide))
    have own := q.own
    have hb := q.hb
    rw [hall 8 (by decide), if_pos rfl] at own
    rw [hall 10 (by decide), if_pos rfl] at hb
    have hr := HI.out.rs.rd.lt
    have hw := HI.out.b.lt
    have o1 := HOO.out.h1
    have P := q.is.push HOO.out (z := wc.heap.size) HI.out.sz (fun k e => (ownsRow_ge HI.out.kr e).2) (fun k e => (ownsRow_ge HI.out.lr e).2) q.at4 q.f5 q.hg q.fr hb own q.hB
    exact HQ.out _ _ _ _ _ _ _ _ _ _ _ _ P.1 ((q.f4.mono (fun k e => .inl e)).trans (P.2.mono (fun k e => .inr (by omega))))
end Go.Proofs.YtakgcaehkphepaaGreatDoor
