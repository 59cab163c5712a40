/- How types lie in memory, and small laws on worlds. -/
import Derived.Test.YtcggghamnmflcaaProg
import Derived.Test.YtcggghamnmflcaaShp
import Derived.Below
import Derived.Deep.Draws
import Derived.OwnWalk
import Derived.Laws.OwnMore
import Derived.Deep.AppendLies
import Derived.Lib.Hide
namespace Go.Proofs.Ytcggghamnmflcaa
open Go Go.RowKit

theorem bel_alloc {w W : World} (h : Below w.heap.size w W) (o : Obj) : Below w.heap.size w (W.alloc o) := h.alloc h.size o
theorem bel_drewN {B : Nat} {w W : World} (h : Below B w W) (n : Nat) : Below B w (W.drewN n) := ⟨h.os, h.tape, h.output, h.size, h.block⟩
theorem bel_drew {B : Nat} {w W : World} (h : Below B w W) : Below B w W.drew := ⟨h.os, h.tape, h.output, h.size, h.block⟩
theorem bel_then {w w1 w2 : World} (h : Below w.heap.size w w1) (k : Below w1.heap.size w1 w2) : Below w.heap.size w w2 := h.trans (k.mono h.size)
theorem bel_cell {w w1 : World} (h : Below w.heap.size w w1) {a : Addr} {v : Value} (hc : w.cell? a = some v) : w1.cell? a = some v := (h.cell (World.block_lt_of_cell? w a hc)).trans hc

/-- Cells that lie one behind the other. -/
def Row (w : World) (b o : Nat) (cs : List Value) : Prop := ∀ j v, cs[j]? = some v → w.cell? ⟨b, o + j, none⟩ = some v
theorem Row.below {w w1 : World} {b o : Nat} {cs : List Value} (h : Row w b o cs) (hb : Below w.heap.size w w1) : Row w1 b o cs :=
  fun j v hv => bel_cell hb (h j v hv)

/-- The seven cells of a type, as they lie in a struct: cs; what its slices hold lies in w. -/
def TyAt (w : World) : (d : Nat) → Tp d → List Value → Prop
  | 0, t, _ => nomatch t
  | d + 1, t, cs =>
    let t : Nd (Tp d) := t
    ∃ (A1 A2 : Option Addr) (c1 c2 : Nat), cs = [.int .i64 t.sh, .int .i64 t.k, .int .i64 t.n, .slice A1 t.of.length c1, .slice A2 t.fs.length c2, .bool t.pk, .int .i64 t.al] ∧
      I64 t.sh ∧ I64 t.k ∧ I64 t.n ∧ I64 t.al ∧ t.of.length ≤ c1 ∧ t.fs.length ≤ c2 ∧ c1 ≤ 9223372036854775807 ∧ c2 ≤ 9223372036854775807 ∧
      (∀ i x, t.of[i]? = some x → ∃ b o xs, A1 = some ⟨b, o, none⟩ ∧ xs.length = 7 ∧ Row w b (o + i * 7) xs ∧ TyAt w d x xs) ∧
      (∀ i f, t.fs[i]? = some f → ∃ b o xs, A2 = some ⟨b, o, none⟩ ∧ xs.length = 7 ∧ I64 f.bits ∧ f.nm.size ≤ 9223372036854775807 ∧ Row w b (o + i * 9) ([.string f.nm] ++ xs ++ [.int .i64 f.bits]) ∧ TyAt w d f.t xs)
theorem TyAt.below {w w1 : World} (hb : Below w.heap.size w w1) : ∀ {d : Nat} {t : Tp d} {cs : List Value}, TyAt w d t cs → TyAt w1 d t cs
  | 0, t, _, _ => nomatch t
  | d + 1, t, cs, h => by
    obtain ⟨A1, A2, c1, c2, e, b1, b2, b3, b4, l1, l2, m1, m2, h1, h2⟩ := h
    refine ⟨A1, A2, c1, c2, e, b1, b2, b3, b4, l1, l2, m1, m2, fun i x hx => ?_, fun i f hf => ?_⟩
    · obtain ⟨b, o, xs, ha, hl, hr, ht⟩ := h1 i x hx
      exact ⟨b, o, xs, ha, hl, hr.below hb, TyAt.below hb ht⟩
    · obtain ⟨b, o, xs, ha, hl, hbt, hn, hr, ht⟩ := h2 i f hf
      exact ⟨b, o, xs, ha, hl, hbt, hn, hr.below hb, TyAt.below hb ht⟩
/-- A slice of members: its address, what lies there. -/
def FdsAt (w : World) (d : Nat) (A : Option Addr) (l : List (Fld (Tp d))) : Prop :=
  ∀ i f, l[i]? = some f → ∃ b o xs, A = some ⟨b, o, none⟩ ∧ xs.length = 7 ∧ I64 f.bits ∧ f.nm.size ≤ 9223372036854775807 ∧ Row w b (o + i * 9) ([.string f.nm] ++ xs ++ [.int .i64 f.bits]) ∧ TyAt w d f.t xs
theorem FdsAt.below {w w1 : World} {d : Nat} {A : Option Addr} {l : List (Fld (Tp d))} (h : FdsAt w d A l) (hb : Below w.heap.size w w1) : FdsAt w1 d A l := fun i f hf => by
  obtain ⟨b, o, xs, ha, hl, hbt, hn, hr, ht⟩ := h i f hf
  exact ⟨b, o, xs, ha, hl, hbt, hn, hr.below hb, ht.below hb⟩
theorem TyAt.form {w : World} : ∀ {d : Nat} {t : Tp d} {cs : List Value}, TyAt w d t cs → ∃ (n : Int) (A1 A2 : Option Addr) (n1 n2 c1 c2 : Nat) (pk : Bool) (al : Int), cs = [.int .i64 (tsh d t), .int .i64 (tk d t), .int .i64 n, .slice A1 n1 c1, .slice A2 n2 c2, .bool pk, .int .i64 al]
  | 0, t, _, _ => nomatch t
  | d + 1, t, cs, h => by
    obtain ⟨A1, A2, c1, c2, e, _⟩ := h
    exact ⟨_, A1, A2, _, _, c1, c2, _, _, e⟩
/-- The cells of one member, written out. -/
theorem FdsAt.at_ {w : World} {d : Nat} {A : Option Addr} {l : List (Fld (Tp d))} (h : FdsAt w d A l) {i : Nat} {f : Fld (Tp d)} (hf : l[i]? = some f) :
    ∃ (b o : Nat) (n : Int) (A1 A2 : Option Addr) (n1 n2 c1 c2 : Nat) (pk : Bool) (al : Int), A = some ⟨b, o, none⟩ ∧ I64 f.bits ∧ f.nm.size ≤ 9223372036854775807 ∧
      TyAt w d f.t [.int .i64 (tsh d f.t), .int .i64 (tk d f.t), .int .i64 n, .slice A1 n1 c1, .slice A2 n2 c2, .bool pk, .int .i64 al] ∧
      w.cell? ⟨b, o + i * 9, none⟩ = some (.string f.nm) ∧ w.cell? ⟨b, o + i * 9 + 1, none⟩ = some (.int .i64 (tsh d f.t)) ∧ w.cell? ⟨b, o + i * 9 + 2, none⟩ = some (.int .i64 (tk d f.t)) ∧ w.cell? ⟨b, o + i * 9 + 3, none⟩ = some (.int .i64 n) ∧
      w.cell? ⟨b, o + i * 9 + 4, none⟩ = some (.slice A1 n1 c1) ∧ w.cell? ⟨b, o + i * 9 + 5, none⟩ = some (.slice A2 n2 c2) ∧ w.cell? ⟨b, o + i * 9 + 6, none⟩ = some (.bool pk) ∧ w.cell? ⟨b, o + i * 9 + 7, none⟩ = some (.int .i64 al) ∧ w.cell? ⟨b, o + i * 9 + 8, none⟩ = some (.int .i64 f.bits) := by
  obtain ⟨b, o, xs, ha, hl, hbt, hn, hr, ht⟩ := h i f hf
  obtain ⟨n, A1, A2, n1, n2, c1, c2, pk, al, rfl⟩ := ht.form
  exact ⟨b, o, n, A1, A2, n1, n2, c1, c2, pk, al, ha, hbt, hn, ht, hr 0 _ rfl, hr 1 _ rfl, hr 2 _ rfl, hr 3 _ rfl, hr 4 _ rfl, hr 5 _ rfl, hr 6 _ rfl, hr 7 _ rfl, hr 8 _ rfl⟩
end Go.Proofs.Ytcggghamnmflcaa
