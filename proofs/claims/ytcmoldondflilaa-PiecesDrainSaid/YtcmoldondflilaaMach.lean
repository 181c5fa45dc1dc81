/- Layers 4 and 5 in plain Lean: dialects, events, what a byte comes to, the maker of records. No program in sight. -/
namespace Go.Proofs.Ytcmoldondflilaa.Mach
set_option linter.unusedVariables false
set_option linter.unusedSimpArgs false
set_option maxRecDepth 100000

abbrev Bs := List UInt8
abbrev Row := List Bs
abbrev Tb := List Row

structure Dia where
  delim : UInt8
  quote : UInt8
  fin : Int
deriving DecidableEq
def mayPart (b : UInt8) : Bool := decide (b.toNat < 128) && b != 13 && b != 10
def rightFin (n : Int) : Bool := n == 1 || n == 2 || n == 3
def Dia.right (d : Dia) : Bool := mayPart d.delim && mayPart d.quote && d.delim != d.quote && rightFin d.fin

structure Ev where
  beg : Bool
  add : Bool
  fld : Bool
  lin : Bool
  rcd : Bool
  b : UInt8
deriving DecidableEq
def ev0 : Ev := ⟨false, false, false, false, false, 0⟩

def wrongEnd (d : Dia) (b : UInt8) : Bool := (b == 13 && d.fin == 1) || (b == 10 && d.fin == 2)
def atStart (d : Dia) (b : UInt8) : Ev × Nat × Nat :=
  if wrongEnd d b then (ev0, 0, 6)
  else if b == d.quote then (⟨true, false, false, false, false, 0⟩, 3, 0)
  else if b == d.delim then (⟨true, false, true, false, false, 0⟩, 1, 0)
  else if b == 13 then (ev0, 6, 0)
  else if b == 10 then (ev0, 0, 0)
  else (⟨true, true, false, false, false, b⟩, 2, 0)
def inRecord (d : Dia) (st : Nat) (b : UInt8) : Ev × Nat × Nat :=
  if wrongEnd d b then (ev0, 0, 6)
  else if b == d.quote && st == 1 then (ev0, 3, 0)
  else if b == d.quote && st == 4 then (⟨false, true, false, false, false, b⟩, 3, 0)
  else if b == d.quote then (ev0, 0, 4)
  else if b == d.delim then (⟨false, false, true, false, false, 0⟩, 1, 0)
  else if b == 13 then (⟨false, false, false, true, false, 0⟩, 5, 0)
  else if b == 10 then (⟨false, false, false, true, true, 0⟩, 0, 0)
  else if st == 4 then (ev0, 0, 5)
  else (⟨false, true, false, false, false, b⟩, 2, 0)
def step (d : Dia) (st : Nat) (b : UInt8) : Ev × Nat × Nat :=
  if st == 0 then atStart d b
  else if st == 1 || st == 2 || st == 4 then inRecord d st b
  else if st == 3 then (if b == d.quote then (ev0, 4, 0) else (⟨false, true, false, false, false, b⟩, 3, 0))
  else if st == 5 || st == 6 then (if b != 10 then (ev0, 0, 6) else (⟨false, false, false, false, st == 5, 0⟩, 0, 0))
  else (ev0, 0, 0)
def closeEv (st : Nat) : Ev × Nat :=
  if st == 1 || st == 2 || st == 4 then (⟨false, false, false, true, true, 0⟩, 0)
  else if st == 3 then (ev0, 11)
  else if st == 5 || st == 6 then (ev0, 6)
  else (ev0, 0)

structure Lim where
  field : Nat
  fields : Nat
  records : Nat
  uniform : Bool
deriving DecidableEq
structure Mk where
  lim : Lim
  field : Bs
  record : Row
  begun : Nat
  count : Nat
  width : Nat
  stopped : Nat
def mk0 (l : Lim) : Mk := ⟨l, [], [], 0, 0, 0, 0⟩
def putField (m : Mk) : Mk := { m with record := m.record ++ [m.field], field := [] }
def gather (m : Mk) (e : Ev) : Mk × Nat :=
  if e.beg && decide (m.lim.records ≤ m.begun) then (m, 9) else
  let m1 := if e.beg then { m with begun := m.begun + 1 } else m
  if e.add && decide (m1.lim.field ≤ m1.field.length) then (m1, 7) else
  let m2 := if e.add then { m1 with field := m1.field ++ [e.b] } else m1
  let u := m2.lim.uniform && decide (0 < m2.count)
  let m3 := if e.fld then putField m2 else m2
  if e.fld && decide (m3.lim.fields ≤ m3.record.length) then (m3, 8) else
  if e.fld && u && (m3.record.length == m3.width) then (m3, 10) else
  let m4 := if e.lin then putField m3 else m3
  if e.lin && u && (m4.record.length != m4.width) then (m4, 10) else (m4, 0)
def take (m : Mk) (e : Ev) : Mk × Option Row × Nat :=
  let m1 := if m.stopped == 0 then { (gather m e).1 with stopped := (gather m e).2 } else m
  if m1.stopped != 0 then (m1, none, m1.stopped)
  else if !e.rcd then (m1, none, 0)
  else ({ m1 with record := [], width := if m1.count == 0 then m1.record.length else m1.width, count := m1.count + 1 }, some m1.record, 0)
end Go.Proofs.Ytcmoldondflilaa.Mach
