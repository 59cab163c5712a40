/- Types as plain data, and how they lie: plain definitions, no program. -/
import Derived.Test.YtcggghamnmflcaaKpl
namespace Go.Proofs.Ytcggghamnmflcaa
open Go Go.RowKit

/-- A member of a type: its name, its type, its bits. -/
structure Fld (α : Type) where
  nm : ByteArray
  t : α
  bits : Int
/-- A type whose parts are of α. -/
structure Nd (α : Type) where
  sh : Int
  k : Int
  n : Int
  of : List α
  fs : List (Fld α)
  pk : Bool
  al : Int
/-- Types of depth d at most. -/
def Tp : Nat → Type
  | 0 => Empty
  | d + 1 => Nd (Tp d)
structure Spt where
  bit : Int
  bits : Int
  k : Int
deriving DecidableEq
structure Bx where
  size : Int
  align : Int
  l : List Spt
def tsh : (d : Nat) → Tp d → Int
  | 0, t => nomatch t
  | _ + 1, t => Nd.sh t
def tk : (d : Nat) → Tp d → Int
  | 0, t => nomatch t
  | _ + 1, t => Nd.k t
def upS (v n : Int) : Int := (v + n - 1) / n * n
def isAlignS (n : Int) : Bool := n == 0 || n == 1 || n == 2 || n == 4 || n == 8 || n == 16 || n == 32 || n == 64
def isFieldS (nm : ByteArray) (sh k bits : Int) : Bool :=
  if bits < 0 then !nm.toList.isEmpty else (sh == 1 && decide (bits ≤ 8 * ksize k) && (decide (0 < bits) || nm.toList.isEmpty))
/-- No two names that are not empty are alike. -/
def apartS : List ByteArray → Bool
  | [] => true
  | x :: l => (x.toList.isEmpty || !(l.any fun y => y.data.toList == x.data.toList)) && apartS l
def namedS (l : List ByteArray) : Bool := apartS l && (l.any fun x => !x.toList.isEmpty) && decide (l.length ≤ 40)
def bareS {α : Type} (t : Nd α) : Bool := t.fs.isEmpty && !t.pk && t.al == 0
def plainS : (d : Nat) → Tp d → Int → Bool
  | 0, t, _ => nomatch t
  | d + 1, t, deep =>
    let t : Nd (Tp d) := t
    if deep < 1 then false
    else if t.sh = 1 then bareS t && isK t.k && t.n == 0 && t.of.isEmpty
    else if t.sh = 2 then bareS t && t.k == 0 && t.n == 0 && t.of.isEmpty
    else if t.sh = 3 then bareS t && t.k == 0 && decide (1 ≤ t.n) && (match t.of with | [x] => plainS d x (deep - 1) | _ => false)
    else if t.sh = 4 ∨ t.sh = 5 then t.k == 0 && t.n == 0 && t.of.isEmpty && isAlignS t.al && namedS (t.fs.map Fld.nm) && (t.fs.all fun f => plainS d f.t (deep - 1) && isFieldS f.nm (tsh d f.t) (tk d f.t) f.bits)
    else false
/-- Where a member begins. -/
def nextS (pk : Bool) (bits size align at_ : Int) : Int :=
  if bits < 0 then (if pk then upS at_ 8 else upS at_ (8 * align))
  else if bits = 0 then upS at_ (8 * size)
  else if pk = false ∧ at_ / (8 * size) ≠ (at_ + bits - 1) / (8 * size) then upS at_ (8 * size) else at_
structure Lay where
  at_ : Int
  end_ : Int
  align : Int
  l : List Spt
/-- One member laid behind the others. -/
def layS (union pk : Bool) (nm : ByteArray) (k bits : Int) (b : Bx) (s : Lay) : Lay :=
  let at0 := if union then 0 else s.at_
  let bit := nextS pk bits b.size b.align at0
  let w := if bits < 0 then 8 * b.size else bits
  { at_ := bit + w, end_ := max s.end_ (bit + w), align := if !pk && !nm.toList.isEmpty then max s.align b.align else s.align, l := s.l ++ [{ bit := bit, bits := w, k := k }] }
def closeS (s : Lay) : Int := upS (upS s.end_ 8 / 8) s.align
def boxS : (d : Nat) → Tp d → Option Bx
  | 0, t => nomatch t
  | d + 1, t =>
    let t : Nd (Tp d) := t
    if t.sh = 1 then some { size := ksize t.k, align := ksize t.k, l := [] }
    else if t.sh = 2 then some { size := 8, align := 8, l := [] }
    else if t.sh = 3 then (match t.of with
      | [x] => (match boxS d x with
        | none => none
        | some b => if 65536 < t.n ∨ 65536 < b.size * t.n then none else some { size := b.size * t.n, align := b.align, l := [] })
      | _ => none)
    else match t.fs.foldlM (fun s f => (boxS d f.t).map fun b => layS (t.sh == 5) t.pk f.nm (tk d f.t) f.bits b s) { at_ := 0, end_ := 0, align := max 1 t.al, l := [] } with
      | none => none
      | some s => if 65536 < closeS s then none else some { size := closeS s, align := s.align, l := s.l }
/-- What lie answers: 100 not right, 101 too big, 0 right. -/
def lieE (d : Nat) (t : Tp d) (deep : Int) : Int := if plainS d t deep then (match boxS d t with | none => 101 | some _ => 0) else 100
end Go.Proofs.Ytcggghamnmflcaa
