/- Layer 6 in plain Lean: the document's grammar, place by place, and that layer 4's and 5's machine reads the same. No program in sight. -/
import Derived.Test.YtcmoldondflilaaMach
namespace Go.Proofs.Ytcmoldondflilaa.Gram
set_option linter.unusedVariables false
set_option linter.unusedSimpArgs false
set_option maxRecDepth 100000
open Mach

/-- A field that was read: its bytes, what is left, where; or what is wrong (kind), and where. -/
structure FR where
  f : Bs
  r : Bs
  i : Nat
  kind : Nat
  pl : Nat
def sepB (d : Dia) (b : UInt8) : Bool := b == d.delim || b == 10 || b == 13
def quotedG (d : Dia) (lm : Nat) : Bs → Nat → Bs → FR
  | [], i, f => ⟨f, [], i, 11, i⟩
  | [b], i, f =>
    if b == d.quote then ⟨f, [], i + 1, 0, 0⟩
    else if f.length == lm then ⟨f, [b], i, 7, i⟩ else ⟨f ++ [b], [], i + 1, 11, i + 1⟩
  | b :: c :: r, i, f =>
    if b == d.quote then
      if c == d.quote then (if f.length == lm then ⟨f, b :: c :: r, i, 7, i + 1⟩ else quotedG d lm r (i + 2) (f ++ [c]))
      else if sepB d c then ⟨f, c :: r, i + 1, 0, 0⟩ else ⟨f, c :: r, i + 1, 5, i + 1⟩
    else if f.length == lm then ⟨f, b :: c :: r, i, 7, i⟩ else quotedG d lm (c :: r) (i + 1) (f ++ [b])
def bareG (d : Dia) (lm : Nat) : Bs → Nat → Bs → FR
  | [], i, f => ⟨f, [], i, 0, 0⟩
  | b :: r, i, f =>
    if sepB d b then ⟨f, b :: r, i, 0, 0⟩
    else if b == d.quote then ⟨f, b :: r, i, 4, i⟩
    else if f.length == lm then ⟨f, b :: r, i, 7, i⟩
    else bareG d lm r (i + 1) (f ++ [b])
def fieldG (d : Dia) (lm : Nat) (r : Bs) (i : Nat) : FR :=
  match r with
  | [] => bareG d lm [] i []
  | b :: r' => if b == d.quote then quotedG d lm r' (i + 1) [] else bareG d lm (b :: r') i []
/-- A line's fields. -/
structure LR where
  row : Row
  r : Bs
  i : Nat
  kind : Nat
  pl : Nat
def fieldsG (d : Dia) (l : Lim) (u : Option Nat) : Nat → Bs → Nat → Row → LR
  | 0, r, i, row => ⟨row, r, i, 0, 0⟩
  | n + 1, r, i, row =>
    let x := fieldG d l.field r i
    if x.kind != 0 then ⟨row, x.r, x.i, x.kind, x.pl⟩ else
    match x.r with
    | [] => ⟨row ++ [x.f], [], x.i, 0, 0⟩
    | b :: r' =>
      if b == d.delim then
        if (row ++ [x.f]).length == l.fields then ⟨row ++ [x.f], b :: r', x.i, 8, x.i⟩
        else if u == some (row ++ [x.f]).length then ⟨row ++ [x.f], b :: r', x.i, 10, x.i⟩
        else fieldsG d l u n r' (x.i + 1) (row ++ [x.f])
      else ⟨row ++ [x.f], b :: r', x.i, 0, 0⟩
def bad (u : Option Nat) (n : Nat) : Bool := match u with | none => false | some k => n != k
/-- What was read by now, and the first fault. -/
structure G where
  recs : Tb
  ends : List Nat
  kind : Nat
  pl : Nat
def G.nil : G := ⟨[], [], 0, 0⟩
def G.wrong (k p : Nat) : G := ⟨[], [], k, p⟩
def G.cons (r : Row) (p : Nat) (g : G) : G := ⟨r :: g.recs, p :: g.ends, g.kind, g.pl⟩
def uni (l : Lim) (first : Option Nat) : Option Nat := if l.uniform then first else none
def firstOf (first : Option Nat) (n : Nat) : Option Nat := match first with | none => some n | some k => some k
/-- What a text's rest comes to, from the head of a line on: n lines begun, the first record's fields. -/
def readG (d : Dia) (l : Lim) : Nat → Nat → Option Nat → Bs → Nat → G
  | 0, begun, first, r, i => G.nil
  | n + 1, begun, first, r, i =>
    match r with
    | [] => G.nil
    | b :: r' =>
      if b == 10 then (if d.fin == 2 then G.wrong 6 i else readG d l n begun first r' (i + 1))
      else if b == 13 then
        if d.fin == 1 then G.wrong 6 i else
        match r' with
        | [] => G.wrong 6 (i + 1)
        | c :: r2 => if c == 10 then readG d l n begun first r2 (i + 2) else G.wrong 6 (i + 1)
      else if begun == l.records then G.wrong 9 i else
      let x := fieldsG d l (uni l first) (r.length + 1) r i []
      if x.kind != 0 then G.wrong x.kind x.pl else
      match x.r with
      | [] => if bad (uni l first) x.row.length then G.wrong 10 x.i else G.cons x.row x.i G.nil
      | c :: r2 =>
        if c == 10 then
          if d.fin == 2 then G.wrong 6 x.i
          else if bad (uni l first) x.row.length then G.wrong 10 x.i
          else G.cons x.row x.i (readG d l n (begun + 1) (firstOf first x.row.length) r2 (x.i + 1))
        else
          if d.fin == 1 then G.wrong 6 x.i
          else if bad (uni l first) x.row.length then G.wrong 10 x.i
          else match r2 with
          | [] => G.wrong 6 (x.i + 1)
          | e :: r3 => if e == 10 then G.cons x.row (x.i + 1) (readG d l n (begun + 1) (firstOf first x.row.length) r3 (x.i + 2)) else G.wrong 6 (x.i + 1)

/-! ### The machine -/
/-- What layers 4 and 5 make of a text's rest. -/
def mrun (d : Dia) : Nat → Mk → Bs → Nat → G
  | st, m, [], i =>
    if (closeEv st).2 != 0 then G.wrong (closeEv st).2 i else
    let t := take m (closeEv st).1
    if t.2.2 != 0 then G.wrong t.2.2 i else
    match t.2.1 with
    | none => G.nil
    | some r => G.cons r i G.nil
  | st, m, b :: r, i =>
    let s := Mach.step d st b
    if s.2.2 != 0 then G.wrong s.2.2 i else
    let t := take m s.1
    if t.2.2 != 0 then G.wrong t.2.2 i else
    match t.2.1 with
    | none => mrun d s.2.1 t.1 r (i + 1)
    | some row => G.cons row i (mrun d s.2.1 t.1 r (i + 1))

/-! ### One event -/
section ev
variable (m : Mk)
theorem g0 : gather m ev0 = (m, 0) := rfl
theorem gA (b : UInt8) : gather m ⟨false, true, false, false, false, b⟩ = if m.lim.field ≤ m.field.length then (m, 7) else ({ m with field := m.field ++ [b] }, 0) := by
  unfold gather
  by_cases h : m.lim.field ≤ m.field.length <;> simp [h]
theorem gF : gather m ⟨false, false, true, false, false, 0⟩ =
    if m.lim.fields ≤ m.record.length + 1 then (putField m, 8) else if m.lim.uniform && decide (0 < m.count) && (m.record.length + 1 == m.width) then (putField m, 10) else (putField m, 0) := by
  unfold gather
  by_cases h : m.lim.fields ≤ m.record.length + 1 <;> simp [h, putField]
theorem gL (x : Bool) : gather m ⟨false, false, false, true, x, 0⟩ =
    if m.lim.uniform && decide (0 < m.count) && (m.record.length + 1 != m.width) then (putField m, 10) else (putField m, 0) := by
  unfold gather
  simp [putField]
theorem gR : gather m ⟨false, false, false, false, true, 0⟩ = (m, 0) := rfl
theorem gB (h : m.begun < m.lim.records) (e2 e3 e4 e5 : Bool) (b : UInt8) : gather m ⟨true, e2, e3, e4, e5, b⟩ = gather { m with begun := m.begun + 1 } ⟨false, e2, e3, e4, e5, b⟩ := by
  have h' : ¬ m.lim.records ≤ m.begun := by omega
  unfold gather
  simp [h']
theorem gB9 (h : m.lim.records ≤ m.begun) (e2 e3 e4 e5 : Bool) (b : UInt8) : gather m ⟨true, e2, e3, e4, e5, b⟩ = (m, 9) := by
  unfold gather
  simp [h]
/-- What a byte's event does, and what follows. -/
def after (m : Mk) (e : Ev) (i : Nat) (K : Mk → G) : G :=
  if (take m e).2.2 != 0 then G.wrong (take m e).2.2 i else
  match (take m e).2.1 with
  | none => K (take m e).1
  | some row => G.cons row i (K (take m e).1)
theorem mrun_cons (d : Dia) (st : Nat) (b : UInt8) (r : Bs) (i : Nat) :
    mrun d st m (b :: r) i = if (Mach.step d st b).2.2 != 0 then G.wrong (Mach.step d st b).2.2 i else after m (Mach.step d st b).1 i fun m' => mrun d (Mach.step d st b).2.1 m' r (i + 1) := rfl
theorem mrun_nil (d : Dia) (st i : Nat) : mrun d st m [] i = if (closeEv st).2 != 0 then G.wrong (closeEv st).2 i else after m (closeEv st).1 i fun _ => G.nil := rfl
variable {m}
theorem after_no (hs : m.stopped = 0) {e : Ev} {m' : Mk} (hg : gather m e = (m', 0)) (hm : m'.stopped = 0) (hr : e.rcd = false) (i : Nat) (K : Mk → G) : after m e i K = K m' := by
  have : take m e = (m', none, 0) := by
    unfold take
    simp only [hs, hg, hr]
    cases m'
    simp only at hm
    subst hm
    rfl
  unfold after
  rw [this]
  rfl
theorem after_bad (hs : m.stopped = 0) {e : Ev} {m' : Mk} {k : Nat} (hg : gather m e = (m', k)) (hk : k ≠ 0) (i : Nat) (K : Mk → G) : after m e i K = G.wrong k i := by
  have hk' : (k != 0) = true := by simpa using hk
  have : (take m e).2.2 = k := by
    unfold take
    simp [hs, hg, hk']
  unfold after
  rw [this, hk']
  rfl
theorem after_row (hs : m.stopped = 0) {e : Ev} {m' : Mk} (hg : gather m e = (m', 0)) (hm : m'.stopped = 0) (hr : e.rcd = true) (i : Nat) (K : Mk → G) :
    after m e i K = G.cons m'.record i (K { m' with record := [], width := if m'.count == 0 then m'.record.length else m'.width, count := m'.count + 1 }) := by
  have : take m e = ({ m' with record := [], width := if m'.count == 0 then m'.record.length else m'.width, count := m'.count + 1 }, some m'.record, 0) := by
    unfold take
    simp only [hs, hg, hr]
    cases m'
    simp only at hm
    subst hm
    rfl
  unfold after
  rw [this]
  rfl
end ev

/-! ### A dialect that is right -/
section right
variable {d : Dia}
theorem step2_add {b : UInt8} (h1 : sepB d b = false) (h2 : b ≠ d.quote) : Mach.step d 2 b = (⟨false, true, false, false, false, b⟩, 2, 0) := by
  unfold sepB at h1
  simp only [Bool.or_eq_false_iff, beq_eq_false_iff_ne] at h1
  simp [Mach.step, inRecord, wrongEnd, h1, h2]
theorem step4_other {b : UInt8} (h1 : sepB d b = false) (h2 : b ≠ d.quote) : Mach.step d 4 b = (ev0, 0, 5) := by
  unfold sepB at h1
  simp only [Bool.or_eq_false_iff, beq_eq_false_iff_ne] at h1
  simp [Mach.step, inRecord, wrongEnd, h1, h2]
theorem step1_other {b : UInt8} (h2 : b ≠ d.quote) : Mach.step d 1 b = Mach.step d 2 b := by
  simp [Mach.step, inRecord, h2]
theorem step3_quote : Mach.step d 3 d.quote = (ev0, 4, 0) := by simp [Mach.step]
theorem step3_other {b : UInt8} (h2 : b ≠ d.quote) : Mach.step d 3 b = (⟨false, true, false, false, false, b⟩, 3, 0) := by simp [Mach.step, h2]
variable (hd : d.right = true)
include hd
theorem right_parts : d.quote ≠ 13 ∧ d.quote ≠ 10 ∧ d.delim ≠ 13 ∧ d.delim ≠ 10 ∧ d.delim ≠ d.quote := by
  unfold Dia.right mayPart at hd
  simp only [Bool.and_eq_true, bne_iff_ne, ne_eq] at hd
  exact ⟨hd.1.1.2.1.2, hd.1.1.2.2, hd.1.1.1.1.2, hd.1.1.1.2, hd.1.2⟩
theorem step2_quote : Mach.step d 2 d.quote = (ev0, 0, 4) := by
  obtain ⟨h1, h2, h3, h4, h5⟩ := right_parts hd
  simp [Mach.step, inRecord, wrongEnd, h1, h2]
theorem step4_quote : Mach.step d 4 d.quote = (⟨false, true, false, false, false, d.quote⟩, 3, 0) := by
  obtain ⟨h1, h2, h3, h4, h5⟩ := right_parts hd
  simp [Mach.step, inRecord, wrongEnd, h1, h2]
theorem step4_sep {b : UInt8} (h1 : sepB d b = true) : Mach.step d 4 b = Mach.step d 2 b := by
  obtain ⟨p1, p2, p3, p4, p5⟩ := right_parts hd
  unfold sepB at h1
  simp only [Bool.or_eq_true, beq_iff_eq] at h1
  have hq : (b == d.quote) = false := by
    rw [beq_eq_false_iff_ne]
    rintro rfl
    rcases h1 with (h | h) | h
    · exact p5 h.symm
    · exact p2 h
    · exact p1 h
  simp only [Mach.step, inRecord, hq]
  rcases h1 with (h | h) | h <;> subst h <;> simp
theorem step1_quote : Mach.step d 1 d.quote = (ev0, 3, 0) := by
  obtain ⟨h1, h2, h3, h4, h5⟩ := right_parts hd
  simp [Mach.step, inRecord, wrongEnd, h1, h2]
theorem step2_delim : Mach.step d 2 d.delim = (⟨false, false, true, false, false, 0⟩, 1, 0) := by
  obtain ⟨h1, h2, h3, h4, h5⟩ := right_parts hd
  simp [Mach.step, inRecord, wrongEnd, h3, h4, h5]
end right

/-! ### Fields -/
theorem mrun_ok {d : Dia} {st st' : Nat} {b : UInt8} {e : Ev} (h : Mach.step d st b = (e, st', 0)) (m : Mk) (r : Bs) (i : Nat) : mrun d st m (b :: r) i = after m e i fun m' => mrun d st' m' r (i + 1) := by
  rw [mrun_cons, h]
  rfl
theorem mrun_err {d : Dia} {st st' k : Nat} {b : UInt8} {e : Ev} (h : Mach.step d st b = (e, st', k)) (hk : k ≠ 0) (m : Mk) (r : Bs) (i : Nat) : mrun d st m (b :: r) i = G.wrong k i := by
  rw [mrun_cons, h]
  have hk' : (k != 0) = true := by simpa using hk
  simp only [hk', if_true]
def FR.go (x : FR) (K : G) : G := if x.kind != 0 then G.wrong x.kind x.pl else K
theorem go_ok {x : FR} (h : x.kind = 0) (K : G) : x.go K = K := by simp [FR.go, h]
theorem mrun_quoted (d : Dia) (hd : d.right = true) (lm : Nat) : ∀ (r : Bs) (i : Nat) (f : Bs) (m : Mk), m.stopped = 0 → m.lim.field = lm → m.field = f → f.length ≤ lm →
    mrun d 3 m r i = (quotedG d lm r i f).go (mrun d 4 { m with field := (quotedG d lm r i f).f } (quotedG d lm r i f).r (quotedG d lm r i f).i) := by
  intro r i f
  induction r, i, f using quotedG.induct d lm with
  | case1 i f => intro m hs hl hf hlen; rfl
  | case2 b i f hq =>
    intro m hs hl hf hlen
    rw [beq_iff_eq] at hq
    subst hq
    rw [mrun_ok step3_quote]
    subst hf
    simp only [quotedG, beq_self_eq_true, if_true]
    exact (after_no hs (g0 m) hs rfl _ _).trans rfl
  | case3 b i f hq hfull =>
    intro m hs hl hf hlen
    have hq' : b ≠ d.quote := by simpa using hq
    have hfull' := hfull
    rw [beq_iff_eq] at hfull'
    rw [mrun_ok (step3_other hq')]
    have : gather m ⟨false, true, false, false, false, b⟩ = (m, 7) := by rw [gA, if_pos (by rw [hl, hf]; omega)]
    simp only [quotedG, hq, hfull, if_true, if_false]
    exact (after_bad hs this (by decide) _ _).trans rfl
  | case4 b i f hq hfull =>
    intro m hs hl hf hlen
    have hq' : b ≠ d.quote := by simpa using hq
    have hfull' : f.length ≠ lm := by simpa using hfull
    rw [mrun_ok (step3_other hq')]
    have : gather m ⟨false, true, false, false, false, b⟩ = ({ m with field := m.field ++ [b] }, 0) := by rw [gA, if_neg (by rw [hl, hf]; omega)]
    simp only [quotedG, hq, hfull]
    exact (after_no hs this hs rfl _ _).trans rfl
  | case5 b c r i f hb hc hfull =>
    intro m hs hl hf hlen
    rw [beq_iff_eq] at hb hc
    have hfull' := hfull
    rw [beq_iff_eq] at hfull'
    subst hb
    subst hc
    rw [mrun_ok step3_quote]
    have : gather m ⟨false, true, false, false, false, d.quote⟩ = (m, 7) := by rw [gA, if_pos (by rw [hl, hf]; omega)]
    simp only [quotedG, hfull, beq_self_eq_true, if_true]
    refine (after_no hs (g0 m) hs rfl _ _).trans ?_
    rw [mrun_ok (step4_quote hd)]
    exact (after_bad hs this (by decide) _ _).trans rfl
  | case6 b c r i f hb hc hfull ih =>
    intro m hs hl hf hlen
    rw [beq_iff_eq] at hb hc
    have hfull' : f.length ≠ lm := by simpa using hfull
    subst hb
    subst hc
    rw [mrun_ok step3_quote]
    have : gather m ⟨false, true, false, false, false, d.quote⟩ = ({ m with field := m.field ++ [d.quote] }, 0) := by rw [gA, if_neg (by rw [hl, hf]; omega)]
    simp only [quotedG, hfull, beq_self_eq_true, if_true]
    refine (after_no hs (g0 m) hs rfl _ _).trans ?_
    rw [mrun_ok (step4_quote hd)]
    refine (after_no hs this hs rfl _ _).trans ?_
    exact (ih { m with field := m.field ++ [d.quote] } hs hl (by simp [hf]) (by simp; omega)).trans rfl
  | case7 b c r i f hb hc hsep =>
    intro m hs hl hf hlen
    rw [beq_iff_eq] at hb
    subst hb
    rw [mrun_ok step3_quote]
    subst hf
    simp only [quotedG, hc, hsep, beq_self_eq_true, if_true]
    exact (after_no hs (g0 m) hs rfl _ _).trans rfl
  | case8 b c r i f hb hc hsep =>
    intro m hs hl hf hlen
    rw [beq_iff_eq] at hb
    subst hb
    have hc' : c ≠ d.quote := by simpa using hc
    have hsep' : sepB d c = false := by simpa using hsep
    rw [mrun_ok step3_quote]
    simp only [quotedG, hc, hsep', beq_self_eq_true, if_true]
    refine (after_no hs (g0 m) hs rfl _ _).trans ?_
    exact (mrun_err (step4_other hsep' hc') (by decide) _ _ _).trans rfl
  | case9 b c r i f hq hfull =>
    intro m hs hl hf hlen
    have hq' : b ≠ d.quote := by simpa using hq
    have hfull' := hfull
    rw [beq_iff_eq] at hfull'
    rw [mrun_ok (step3_other hq')]
    have : gather m ⟨false, true, false, false, false, b⟩ = (m, 7) := by rw [gA, if_pos (by rw [hl, hf]; omega)]
    simp only [quotedG, hq, hfull, if_true]
    exact (after_bad hs this (by decide) _ _).trans rfl
  | case10 b c r i f hq hfull ih =>
    intro m hs hl hf hlen
    have hq' : b ≠ d.quote := by simpa using hq
    have hfull' : f.length ≠ lm := by simpa using hfull
    rw [mrun_ok (step3_other hq')]
    have : gather m ⟨false, true, false, false, false, b⟩ = ({ m with field := m.field ++ [b] }, 0) := by rw [gA, if_neg (by rw [hl, hf]; omega)]
    simp only [quotedG, hq, hfull]
    refine (after_no hs this hs rfl _ _).trans ?_
    exact (ih { m with field := m.field ++ [b] } hs hl (by simp [hf]) (by simp; omega)).trans rfl
theorem mrun_bare (d : Dia) (hd : d.right = true) (lm : Nat) : ∀ (r : Bs) (i : Nat) (f : Bs) (m : Mk), m.stopped = 0 → m.lim.field = lm → m.field = f → f.length ≤ lm →
    mrun d 2 m r i = (bareG d lm r i f).go (mrun d 2 { m with field := (bareG d lm r i f).f } (bareG d lm r i f).r (bareG d lm r i f).i) := by
  intro r i f
  induction r, i, f using bareG.induct d lm with
  | case1 i f => intro m hs hl hf hlen; subst hf; rfl
  | case2 b r i f hb =>
    intro m hs hl hf hlen
    subst hf
    simp only [bareG, hb, if_true]
    rfl
  | case3 b r i f hb hq =>
    intro m hs hl hf hlen
    rw [beq_iff_eq] at hq
    subst hq
    simp only [bareG, hb, beq_self_eq_true, if_true]
    exact (mrun_err (step2_quote hd) (by decide) _ _ _).trans rfl
  | case4 b r i f hb hq hfull =>
    intro m hs hl hf hlen
    have hq' : b ≠ d.quote := by simpa using hq
    have hb' : sepB d b = false := by simpa using hb
    have hfull' := hfull
    rw [beq_iff_eq] at hfull'
    rw [mrun_ok (step2_add hb' hq')]
    have : gather m ⟨false, true, false, false, false, b⟩ = (m, 7) := by rw [gA, if_pos (by rw [hl, hf]; omega)]
    simp only [bareG, hb', hq, hfull, if_true]
    exact (after_bad hs this (by decide) _ _).trans rfl
  | case5 b r i f hb hq hfull ih =>
    intro m hs hl hf hlen
    have hq' : b ≠ d.quote := by simpa using hq
    have hb' : sepB d b = false := by simpa using hb
    have hfull' : f.length ≠ lm := by simpa using hfull
    rw [mrun_ok (step2_add hb' hq')]
    have : gather m ⟨false, true, false, false, false, b⟩ = ({ m with field := m.field ++ [b] }, 0) := by rw [gA, if_neg (by rw [hl, hf]; omega)]
    simp only [bareG, hb', hq, hfull]
    refine (after_no hs this hs rfl _ _).trans ?_
    exact (ih { m with field := m.field ++ [b] } hs hl (by simp [hf]) (by simp; omega)).trans rfl

/-- Where a field's reading ends well: the text's end, or a byte that parts; and no more is left than was. -/
def Stops (d : Dia) (r : Bs) : Prop := r = [] ∨ ∃ b r', r = b :: r' ∧ sepB d b = true
theorem quoted_stops (d : Dia) (lm : Nat) : ∀ (r : Bs) (i : Nat) (f : Bs), (quotedG d lm r i f).r.length ≤ r.length ∧ ((quotedG d lm r i f).kind = 0 → Stops d (quotedG d lm r i f).r) := by
  intro r i f
  induction r, i, f using quotedG.induct d lm with
  | case1 i f => exact ⟨Nat.le_refl _, fun _ => .inl rfl⟩
  | case2 b i f hq => simp only [quotedG, hq, if_true]; exact ⟨by simp, fun _ => .inl rfl⟩
  | case3 b i f hq hfull => simp [quotedG, hq, hfull]
  | case4 b i f hq hfull => simp [quotedG, hq, hfull]
  | case5 b c r i f hb hc hfull => simp [quotedG, hb, hc, hfull]
  | case6 b c r i f hb hc hfull ih =>
    simp only [quotedG, hb, hc, hfull, if_true]
    exact ⟨by have := ih.1; simp only [List.length_cons]; simp at this ⊢; omega, by simpa using ih.2⟩
  | case7 b c r i f hb hc hsep => simp only [quotedG, hb, hc, hsep, if_true]; exact ⟨by simp, fun _ => .inr ⟨c, r, by simp, hsep⟩⟩
  | case8 b c r i f hb hc hsep => simp [quotedG, hb, hc, hsep]
  | case9 b c r i f hq hfull => simp [quotedG, hq, hfull]
  | case10 b c r i f hq hfull ih =>
    simp only [quotedG, hq, hfull]
    exact ⟨by have := ih.1; simp only [List.length_cons] at this ⊢; simp at this ⊢; omega, by simpa using ih.2⟩
theorem bare_stops (d : Dia) (lm : Nat) : ∀ (r : Bs) (i : Nat) (f : Bs), (bareG d lm r i f).r.length ≤ r.length ∧ ((bareG d lm r i f).kind = 0 → Stops d (bareG d lm r i f).r) := by
  intro r i f
  induction r, i, f using bareG.induct d lm with
  | case1 i f => exact ⟨Nat.le_refl _, fun _ => .inl rfl⟩
  | case2 b r i f hb => simp only [bareG, hb, if_true]; exact ⟨Nat.le_refl _, fun _ => .inr ⟨b, r, rfl, hb⟩⟩
  | case3 b r i f hb hq => simp [bareG, hb, hq]
  | case4 b r i f hb hq hfull => simp [bareG, hb, hq, hfull]
  | case5 b r i f hb hq hfull ih =>
    simp only [bareG, hb, hq, hfull]
    exact ⟨by have := ih.1; simp only [List.length_cons]; simp at this ⊢; omega, by simpa using ih.2⟩
theorem field_stops (d : Dia) (lm : Nat) (r : Bs) (i : Nat) : (fieldG d lm r i).r.length ≤ r.length ∧ ((fieldG d lm r i).kind = 0 → Stops d (fieldG d lm r i).r) := by
  unfold fieldG
  split
  · exact bare_stops d lm _ _ _
  · split
    · have h := quoted_stops d lm (by assumption) (i + 1) []
      exact ⟨by have := h.1; simp only [List.length_cons]; omega, h.2⟩
    · exact bare_stops d lm _ _ _
theorem mrun_sep (d : Dia) (hd : d.right = true) (m : Mk) {r : Bs} (i : Nat) (h : Stops d r) : mrun d 4 m r i = mrun d 2 m r i := by
  rcases h with rfl | ⟨b, r', rfl, hb⟩
  · rfl
  · rw [mrun_cons, mrun_cons, step4_sep hd hb]
/-- A field, from the state behind a delimiter on. -/
theorem mrun_field (d : Dia) (hd : d.right = true) (m : Mk) (hs : m.stopped = 0) (hf : m.field = []) (r : Bs) (i : Nat) :
    mrun d 1 m r i = (fieldG d m.lim.field r i).go (mrun d 2 { m with field := (fieldG d m.lim.field r i).f } (fieldG d m.lim.field r i).r (fieldG d m.lim.field r i).i) := by
  have hst := (field_stops d m.lim.field r i).2
  unfold fieldG at hst ⊢
  cases r with
  | nil => cases m; simp only at hf; subst hf; rfl
  | cons b r' =>
    simp only at hst ⊢
    by_cases hq : b = d.quote
    · subst hq
      simp only [beq_self_eq_true, if_true] at hst ⊢
      rw [mrun_ok (step1_quote hd)]
      refine (after_no hs (g0 m) hs rfl _ _).trans ?_
      rw [mrun_quoted d hd _ r' (i + 1) [] m hs rfl hf (by simp)]
      unfold FR.go
      split
      · rfl
      · rename_i hk
        rw [mrun_sep d hd _ _ (hst (by simpa using hk))]
    · have hq' : (b == d.quote) = false := by simpa using hq
      simp only [hq'] at hst ⊢
      refine Eq.trans ?_ (mrun_bare d hd _ (b :: r') i [] m hs rfl hf (by simp))
      rw [mrun_cons, mrun_cons, step1_other hq]

/-! ### A line's fields -/
/-- The machine's count of fields that must be, and the grammar's. -/
def URel (m : Mk) (u : Option Nat) : Prop := u = (if m.lim.uniform && decide (0 < m.count) then some m.width else none)
theorem ubad {m : Mk} {u : Option Nat} (h : URel m u) (n : Nat) : (m.lim.uniform && decide (0 < m.count) && (n != m.width)) = bad u n := by
  unfold URel at h
  subst h
  cases m.lim.uniform && decide (0 < m.count) <;> simp [bad]
theorem ueq {m : Mk} {u : Option Nat} (h : URel m u) (n : Nat) : (m.lim.uniform && decide (0 < m.count) && (n == m.width)) = (u == some n) := by
  unfold URel at h
  subst h
  cases m.lim.uniform && decide (0 < m.count)
  · simp
  · simp only [Bool.true_and, if_true]
    rw [Bool.eq_iff_iff, beq_iff_eq, beq_iff_eq]
    exact ⟨fun h => by rw [h], fun h => (Option.some.inj h).symm⟩
theorem fields_len (d : Dia) (l : Lim) (u : Option Nat) : ∀ (n : Nat) (r : Bs) (i : Nat) (row : Row), (fieldsG d l u n r i row).r.length ≤ r.length
  | 0, r, i, row => Nat.le_refl _
  | n + 1, r, i, row => by
    have h := (field_stops d l.field r i).1
    unfold fieldsG
    simp only
    split
    · exact h
    · split
      · simp
      · rename_i b r' he
        rw [he] at h
        simp only [List.length_cons] at h
        split
        · split
          · simp; omega
          · split
            · simp; omega
            · have := fields_len d l u n r' ((fieldG d l.field r i).i + 1) (row ++ [(fieldG d l.field r i).f]); omega
        · simp; omega
theorem mrun_fields (d : Dia) (hd : d.right = true) (l : Lim) (u : Option Nat) : ∀ (n : Nat) (r : Bs) (i : Nat) (m : Mk), r.length < n → m.stopped = 0 → m.field = [] → m.lim = l → URel m u → m.record.length < l.fields →
    ((fieldsG d l u n r i m.record).kind ≠ 0 → mrun d 1 m r i = G.wrong (fieldsG d l u n r i m.record).kind (fieldsG d l u n r i m.record).pl) ∧
    ((fieldsG d l u n r i m.record).kind = 0 → ∃ row0 f, (fieldsG d l u n r i m.record).row = row0 ++ [f] ∧ mrun d 1 m r i = mrun d 2 { m with record := row0, field := f } (fieldsG d l u n r i m.record).r (fieldsG d l u n r i m.record).i ∧
      ((fieldsG d l u n r i m.record).r = [] ∨ ∃ b r', (fieldsG d l u n r i m.record).r = b :: r' ∧ (b = 10 ∨ b = 13)))
  | 0, r, i, m, hn, _, _, _, _, _ => by omega
  | n + 1, r, i, m, hn, hs, hf, hl, hu, hrow => by
    subst hl
    have hx := mrun_field d hd m hs hf r i
    have hst := field_stops d m.lim.field r i
    unfold fieldsG
    generalize fieldG d m.lim.field r i = x at *
    obtain ⟨f, xr, xi, k, p⟩ := x
    simp only [FR.go] at hx hst ⊢
    by_cases hk : k = 0
    · subst hk
      simp only [bne_self_eq_false, Bool.false_eq_true, if_false] at hx ⊢
      rcases hst.2 rfl with rfl | ⟨b, r', rfl, hb⟩
      · exact ⟨fun h => absurd rfl h, fun _ => ⟨m.record, f, rfl, hx, .inl rfl⟩⟩
      · simp only
        by_cases hbd : b = d.delim
        · subst hbd
          simp only [beq_self_eq_true, if_true]
          have hg := gF { m with field := f }
          rw [mrun_ok (step2_delim hd)] at hx
          simp only [List.length_append, List.length_singleton] at hg ⊢
          by_cases hfull : m.record.length + 1 = m.lim.fields
          · rw [if_pos (by omega)] at hg
            simp only [hfull, beq_self_eq_true, if_true]
            exact ⟨fun _ => hx.trans (after_bad (m := { m with field := f }) hs hg (by decide) _ _), fun h => absurd h (by decide)⟩
          · have hfull' : (m.record.length + 1 == m.lim.fields) = false := by simpa using hfull
            rw [if_neg (by omega)] at hg
            have hue := ueq hu (m.record.length + 1)
            simp only [hfull', Bool.false_eq_true, if_false]
            cases hq : u == some (m.record.length + 1)
            · rw [hq] at hue
              rw [if_neg (by simp only [hue]; decide)] at hg
              have hx' := hx.trans (after_no (m := { m with field := f }) hs hg hs rfl _ _)
              have hlen : r'.length < n := by have := hst.1; simp only [List.length_cons] at this; omega
              have ih := mrun_fields d hd m.lim u n r' (xi + 1) (putField { m with field := f }) hlen hs rfl rfl hu (by simp [putField]; omega)
              simp only [putField, Bool.false_eq_true, if_false] at ih hx' ⊢
              rw [hx']
              exact ih
            · rw [hq] at hue
              rw [if_pos hue] at hg
              simp only [if_true]
              exact ⟨fun _ => hx.trans (after_bad (m := { m with field := f }) hs hg (by decide) _ _), fun h => absurd h (by decide)⟩
        · have hbd' : (b == d.delim) = false := by simpa using hbd
          simp only [hbd', Bool.false_eq_true, if_false]
          refine ⟨fun h => absurd rfl h, fun _ => ⟨m.record, f, rfl, hx, .inr ⟨b, r', rfl, ?_⟩⟩⟩
          unfold sepB at hb
          simp only [Bool.or_eq_true, beq_iff_eq] at hb
          rcases hb with (h | h) | h
          · exact absurd h hbd
          · exact .inl h
          · exact .inr h
    · have hk' : (k != 0) = true := by simpa using hk
      simp only [hk', if_true] at hx ⊢
      exact ⟨fun _ => hx, fun h => absurd h hk⟩

/-! ### Lines -/
theorem after_congr {m m' : Mk} {e e' : Ev} (hs : m.stopped = 0) (hs' : m'.stopped = 0) (hg : gather m e = gather m' e') (hr : e.rcd = e'.rcd) (i : Nat) (K : Mk → G) : after m e i K = after m' e' i K := by
  have : take m e = take m' e' := by
    unfold take
    simp only [hs, hs', hg, hr, beq_self_eq_true, if_true]
  unfold after
  rw [this]
theorem mrun_start (d : Dia) (hd : d.right = true) (m : Mk) (hs : m.stopped = 0) (hb : m.begun < m.lim.records) (b : UInt8) (r : Bs) (i : Nat) (h10 : b ≠ 10) (h13 : b ≠ 13) :
    mrun d 0 m (b :: r) i = mrun d 1 { m with begun := m.begun + 1 } (b :: r) i := by
  have key : ∀ (e : Ev), e.beg = false → gather m { e with beg := true } = gather { m with begun := m.begun + 1 } e := by
    intro e he
    obtain ⟨e1, e2, e3, e4, e5, e6⟩ := e
    simp only at he
    subst he
    exact gB m hb e2 e3 e4 e5 e6
  have key2 : ∀ (e : Ev) (i : Nat) (K : Mk → G), e.beg = false → after m { e with beg := true } i K = after { m with begun := m.begun + 1 } e i K := by
    intro e i K he
    exact after_congr (m' := { m with begun := m.begun + 1 }) (e' := e) hs hs (key e he) rfl i K
  have hw : wrongEnd d b = false := by simp [wrongEnd, h10, h13]
  rw [mrun_cons, mrun_cons]
  simp only [Mach.step, atStart, inRecord, hw]
  by_cases hq : b = d.quote
  · subst hq
    simp
    exact key2 ev0 i _ rfl
  · have hq' : (b == d.quote) = false := by simpa using hq
    by_cases hdl : b = d.delim
    · subst hdl
      simp [hq']
      exact key2 ⟨false, false, true, false, false, 0⟩ i _ rfl
    · have hd' : (b == d.delim) = false := by simpa using hdl
      simp [hq', hd', h10, h13]
      exact key2 ⟨false, true, false, false, false, b⟩ i _ rfl
theorem mrun_start9 (d : Dia) (m : Mk) (hs : m.stopped = 0) (hb : m.begun = m.lim.records) (b : UInt8) (r : Bs) (i : Nat) (h10 : b ≠ 10) (h13 : b ≠ 13) : mrun d 0 m (b :: r) i = G.wrong 9 i := by
  have hw : wrongEnd d b = false := by simp [wrongEnd, h10, h13]
  have key : ∀ (e : Ev) (i : Nat) (K : Mk → G), e.beg = true → after m e i K = G.wrong 9 i := by
    intro e i K he
    obtain ⟨e1, e2, e3, e4, e5, e6⟩ := e
    simp only at he
    subst he
    exact after_bad hs (gB9 m (by omega) e2 e3 e4 e5 e6) (by decide) _ _
  rw [mrun_cons]
  simp only [Mach.step, atStart, hw]
  by_cases hq : b = d.quote
  · subst hq
    simp
    exact key _ _ _ rfl
  · have hq' : (b == d.quote) = false := by simpa using hq
    by_cases hdl : b = d.delim
    · subst hdl
      simp [hq']
      exact key _ _ _ rfl
    · have hd' : (b == d.delim) = false := by simpa using hdl
      simp [hq', hd', h10, h13]
      exact key _ _ _ rfl
def FirstRel (m : Mk) (first : Option Nat) : Prop := first = if m.count = 0 then none else some m.width
theorem FirstRel.u {m : Mk} {first : Option Nat} (h : FirstRel m first) : URel m (uni m.lim first) := by
  unfold FirstRel at h
  unfold URel uni
  subst h
  by_cases hc : m.count = 0
  · cases m.lim.uniform <;> simp [hc]
  · have : 0 < m.count := by omega
    cases m.lim.uniform <;> simp [hc, this]
/-- Behind a record. -/
def next (m : Mk) (n : Nat) : Mk := { m with record := [], field := [], width := if m.count == 0 then n else m.width, count := m.count + 1 }
theorem FirstRel.next {m : Mk} {first : Option Nat} (h : FirstRel m first) (n : Nat) : FirstRel (next m n) (firstOf first n) := by
  unfold FirstRel at h ⊢
  unfold Gram.next firstOf
  subst h
  by_cases hc : m.count = 0 <;> simp [hc]
/-- The machine at a line's end: the last field f stands, row0 is the record ahead of it. -/
theorem after_line (m : Mk) (hs : m.stopped = 0) (row0 : Row) (f : Bs) (u : Option Nat) (hu : URel m u) (i : Nat) (K : Mk → G) :
    after { m with record := row0, field := f } ⟨false, false, false, true, true, 0⟩ i K = if bad u (row0 ++ [f]).length then G.wrong 10 i else G.cons (row0 ++ [f]) i (K (next m (row0 ++ [f]).length)) := by
  have hg := gL { m with record := row0, field := f } true
  have hb := ubad hu (row0.length + 1)
  simp only [List.length_append, List.length_singleton] at hg ⊢
  rw [hb] at hg
  cases hq : bad u (row0.length + 1)
  · rw [hq] at hg
    simp only [Bool.false_eq_true, if_false] at hg ⊢
    refine (after_row (m := { m with record := row0, field := f }) hs hg hs rfl _ _).trans ?_
    simp [putField, next]
  · rw [hq] at hg
    simp only [if_true] at hg ⊢
    exact after_bad (m := { m with record := row0, field := f }) hs hg (by decide) _ _
theorem after_cr (m : Mk) (hs : m.stopped = 0) (row0 : Row) (f : Bs) (u : Option Nat) (hu : URel m u) (i : Nat) (K : Mk → G) :
    after { m with record := row0, field := f } ⟨false, false, false, true, false, 0⟩ i K = if bad u (row0 ++ [f]).length then G.wrong 10 i else K { m with record := row0 ++ [f], field := [] } := by
  have hg := gL { m with record := row0, field := f } false
  have hb := ubad hu (row0.length + 1)
  simp only [List.length_append, List.length_singleton] at hg ⊢
  rw [hb] at hg
  cases hq : bad u (row0.length + 1)
  · rw [hq] at hg
    simp only [Bool.false_eq_true, if_false] at hg ⊢
    exact (after_no (m := { m with record := row0, field := f }) hs hg hs rfl _ _).trans rfl
  · rw [hq] at hg
    simp only [if_true] at hg ⊢
    exact after_bad (m := { m with record := row0, field := f }) hs hg (by decide) _ _
theorem read_run (d : Dia) (hd : d.right = true) (l : Lim) (hl1 : 1 ≤ l.fields) : ∀ (n : Nat) (r : Bs) (i : Nat) (m : Mk) (first : Option Nat), r.length < n → m.stopped = 0 → m.field = [] → m.record = [] → m.lim = l → m.begun ≤ l.records → FirstRel m first →
    mrun d 0 m r i = readG d l n m.begun first r i := by
  obtain ⟨p1, p2, p3, p4, p5⟩ := right_parts hd
  intro n
  induction n with
  | zero => intro r i m first hn; omega
  | succ n ih =>
    intro r i m first hn hs hf hr hl hb hfr
    unfold readG
    match r with
    | [] =>
      rw [mrun_nil]
      change after m ev0 i (fun _ => G.nil) = G.nil
      exact after_no hs (g0 m) hs rfl _ _
    | b :: r' =>
      simp only
      simp only [List.length_cons] at hn
      by_cases h10 : b = 10
      · subst h10
        simp only [beq_self_eq_true, if_true]
        by_cases he : d.fin = 2
        · have hst : Mach.step d 0 10 = (ev0, 0, 6) := by simp [Mach.step, atStart, wrongEnd, he]
          simp only [he, beq_self_eq_true, if_true]
          exact mrun_err hst (by decide) _ _ _
        · have he' : (d.fin == 2) = false := by simpa using he
          have hst : Mach.step d 0 10 = (ev0, 0, 0) := by simp [Mach.step, atStart, wrongEnd, he, Ne.symm p2, Ne.symm p4]
          simp only [he', Bool.false_eq_true, if_false]
          rw [mrun_ok hst]
          exact (after_no hs (g0 m) hs rfl _ _).trans (ih r' (i + 1) m first (by omega) hs hf hr hl hb hfr)
      · have h10' : (b == 10) = false := by simpa using h10
        simp only [h10', Bool.false_eq_true, if_false]
        by_cases h13 : b = 13
        · subst h13
          simp only [beq_self_eq_true, if_true]
          by_cases he : d.fin = 1
          · have hst : Mach.step d 0 13 = (ev0, 0, 6) := by simp [Mach.step, atStart, wrongEnd, he]
            simp only [he, beq_self_eq_true, if_true]
            exact mrun_err hst (by decide) _ _ _
          · have he' : (d.fin == 1) = false := by simpa using he
            have hst : Mach.step d 0 13 = (ev0, 6, 0) := by simp [Mach.step, atStart, wrongEnd, he, Ne.symm p1, Ne.symm p3]
            simp only [he', Bool.false_eq_true, if_false]
            rw [mrun_ok hst]
            refine (after_no hs (g0 m) hs rfl _ _).trans ?_
            match r' with
            | [] => rfl
            | c :: r2 =>
              simp only
              by_cases hc : c = 10
              · subst hc
                simp only [beq_self_eq_true, if_true]
                have hst : Mach.step d 6 10 = (ev0, 0, 0) := by simp [Mach.step]; rfl
                rw [mrun_ok hst]
                simp only [List.length_cons] at hn
                exact (after_no hs (g0 m) hs rfl _ _).trans (ih r2 (i + 2) m first (by omega) hs hf hr hl hb hfr)
              · have hc' : (c == 10) = false := by simpa using hc
                have hst : Mach.step d 6 c = (ev0, 0, 6) := by simp [Mach.step, hc]
                simp only [hc', Bool.false_eq_true, if_false]
                exact mrun_err hst (by decide) _ _ _
        · have h13' : (b == 13) = false := by simpa using h13
          simp only [h13', Bool.false_eq_true, if_false]
          by_cases h9 : m.begun = l.records
          · simp only [h9, beq_self_eq_true, if_true]
            exact mrun_start9 d m hs (by rw [hl]; exact h9) b r' i h10 h13
          · have h9' : (m.begun == l.records) = false := by simpa using h9
            simp only [h9', Bool.false_eq_true, if_false]
            have hmr : ({ m with begun := m.begun + 1 } : Mk) = { m with begun := m.begun + 1, record := [] } := by
              cases m
              simp only at hr
              subst hr
              rfl
            rw [mrun_start d hd m hs (by rw [hl]; omega) b r' i h10 h13, hmr]
            have hu : URel { m with begun := m.begun + 1 } (uni l first) := by have := hfr.u; rw [hl] at this; exact this
            have hx := mrun_fields d hd l (uni l first) ((b :: r').length + 1) (b :: r') i { m with begun := m.begun + 1 } (by omega) hs hf hl hu (by simp [hr]; omega)
            have hlen := fields_len d l (uni l first) ((b :: r').length + 1) (b :: r') i []
            rw [show Mk.record { m with begun := m.begun + 1 } = [] from hr] at hx
            generalize fieldsG d l (uni l first) ((b :: r').length + 1) (b :: r') i [] = x at *
            obtain ⟨row, xr, xi, k, p⟩ := x
            simp only at hx hlen ⊢
            by_cases hk : k = 0
            · subst hk
              simp only [bne_self_eq_false, Bool.false_eq_true, if_false]
              obtain ⟨row0, f, rfl, hm, hend⟩ := hx.2 rfl
              rw [hm]
              have hnx : ∀ k, next { m with begun := m.begun + 1 } k = { next m k with begun := m.begun + 1 } := fun k => rfl
              have hfr2 : ∀ k, FirstRel { next m k with begun := m.begun + 1 } (firstOf first k) := fun k => hfr.next k
              rcases hend with rfl | ⟨c, r2, rfl, hc⟩
              · rw [mrun_nil]
                change after _ (⟨false, false, false, true, true, 0⟩ : Ev) xi (fun _ => G.nil) = _
                exact after_line { m with begun := m.begun + 1 } hs row0 f _ hu _ _
              · simp only [List.length_cons] at hlen
                simp only
                rcases hc with rfl | rfl
                · simp only [beq_self_eq_true, if_true]
                  by_cases he : d.fin = 2
                  · have hst : Mach.step d 2 10 = (ev0, 0, 6) := by simp [Mach.step, inRecord, wrongEnd, he]
                    simp only [he, beq_self_eq_true, if_true]
                    exact mrun_err hst (by decide) _ _ _
                  · have he' : (d.fin == 2) = false := by simpa using he
                    have hst : Mach.step d 2 10 = (⟨false, false, false, true, true, 0⟩, 0, 0) := by simp [Mach.step, inRecord, wrongEnd, he, Ne.symm p2, Ne.symm p4]
                    simp only [he', Bool.false_eq_true, if_false]
                    rw [mrun_ok hst]
                    refine (after_line { m with begun := m.begun + 1 } hs row0 f _ hu _ _).trans ?_
                    have := ih r2 (xi + 1) { next m (row0 ++ [f]).length with begun := m.begun + 1 } (firstOf first (row0 ++ [f]).length) (by omega) hs rfl rfl hl (by show m.begun + 1 ≤ l.records; omega) (hfr2 _)
                    rw [hnx, this]
                · have hcc : ((13 : UInt8) == 10) = false := by decide
                  simp only [hcc, Bool.false_eq_true, if_false]
                  by_cases he : d.fin = 1
                  · have hst : Mach.step d 2 13 = (ev0, 0, 6) := by simp [Mach.step, inRecord, wrongEnd, he]
                    simp only [he, beq_self_eq_true, if_true]
                    exact mrun_err hst (by decide) _ _ _
                  · have he' : (d.fin == 1) = false := by simpa using he
                    have hst : Mach.step d 2 13 = (⟨false, false, false, true, false, 0⟩, 5, 0) := by simp [Mach.step, inRecord, wrongEnd, he, Ne.symm p1, Ne.symm p3]
                    simp only [he', Bool.false_eq_true, if_false]
                    rw [mrun_ok hst]
                    refine (after_cr { m with begun := m.begun + 1 } hs row0 f _ hu _ _).trans ?_
                    split
                    · rfl
                    · match r2 with
                      | [] => rfl
                      | e :: r3 =>
                        simp only
                        by_cases hc : e = 10
                        · subst hc
                          simp only [beq_self_eq_true, if_true]
                          have hst : Mach.step d 5 10 = (⟨false, false, false, false, true, 0⟩, 0, 0) := by simp [Mach.step]
                          rw [mrun_ok hst]
                          refine (after_row (m := { m with begun := m.begun + 1, record := row0 ++ [f], field := [] }) hs (gR _) hs rfl _ _).trans ?_
                          simp only [List.length_cons] at hlen
                          have := ih r3 (xi + 2) { next m (row0 ++ [f]).length with begun := m.begun + 1 } (firstOf first (row0 ++ [f]).length) (by omega) hs rfl rfl hl (by show m.begun + 1 ≤ l.records; omega) (hfr2 _)
                          exact congrArg (G.cons (row0 ++ [f]) (xi + 1)) this
                        · have hc' : (e == 10) = false := by simpa using hc
                          have hst : Mach.step d 5 e = (ev0, 0, 6) := by simp [Mach.step, hc]
                          simp only [hc', Bool.false_eq_true, if_false]
                          exact mrun_err hst (by decide) _ _ _
            · have hk' : (k != 0) = true := by simpa using hk
              simp only [hk', if_true]
              exact hx.1 hk
/-- The document's grammar reads what the machine makes. -/
def readAll (d : Dia) (l : Lim) (s : Bs) : G := readG d l (s.length + 1) 0 none s 0
theorem read_mach (d : Dia) (hd : d.right = true) (l : Lim) (hl1 : 1 ≤ l.fields) (s : Bs) : mrun d 0 (mk0 l) s 0 = readAll d l s :=
  read_run d hd l hl1 (s.length + 1) s 0 (mk0 l) none (by omega) rfl rfl rfl rfl (Nat.zero_le _) rfl
end Go.Proofs.Ytcmoldondflilaa.Gram
