/- What a path leads to, in plain words; image.follow. image.follow: what a path leads to. The iterator of image.bits. image.write: a value's bits are written into bytes. image.read: a value is read out of bytes. image.find, image.Spot, image.sized. What a path leads to is one of the type's numbers. image.Get and image.Put. A map keyed by a union of a path: what lies in it, how it is read and written. image.Make, where no union is led through. The walks of burinlaw11.integer and burinlaw11.shown. -/
import Derived.Test.YtcggghamnmflcaaLvc
import Derived.Test.YtcggghamnmflcaaSrm
import Derived.Test.YtcggghamnmflcaaTail
import Derived.BigQuiet
import Derived.Test.YtcggghamnmflcaaClk
import Derived.Deep.Cut
import Derived.Deep.CutRange
import Derived.Test.YtcggghamnmflcaaClh
import Derived.Laws.BitsAllLaws
import Derived.Test.YtcggghamnmflcaaPlc
import Derived.Laws.StructEq
import Derived.Maps.OwnOps
import Derived.Laws.MakeOwn
namespace Go.Proofs.Ytcggghamnmflcaa
open Go Go.RowKit Go.Shelf
/-- A union on the way: where it begins, its bytes, how deep, which member. -/
structure Stp where
  from_ : Int
  size : Int
  deep : Int
  member : Int
deriving DecidableEq
/-- What a path leads to from a type (at a bit, so deep) on, and the unions on the way. -/
def walkS : (d : Nat) → Tp d → Int → Int → List Int → Option (Spt × List Stp)
  | 0, t, _, _, _ => nomatch t
  | d + 1, t, fr, dp, p =>
    let t : Nd (Tp d) := t
    if t.sh = 1 ∨ t.sh = 2 then (match p with
      | [] => some (⟨fr, 8 * bsz (d + 1) t, if t.sh = 2 then 8 else t.k⟩, [])
      | _ => none)
    else match p with
      | [] => none
      | i :: q =>
        if i < 0 then none
        else if t.sh = 3 then (if t.n ≤ i then none else match t.of with
          | x :: _ => walkS d x (fr + 8 * bsz d x * i) (dp + 1) q
          | [] => none)
        else match t.fs[i.toNat]?, (boxD (d + 1) t).l[i.toNat]? with
          | some f, some x =>
            if f.bits = 0 then none
            else if 0 < f.bits then (match q with
              | [] => some (⟨fr + x.bit, x.bits, x.k⟩, if t.sh = 5 then [⟨fr / 8, bsz (d + 1) t, dp, i⟩] else [])
              | _ => none)
            else (walkS d f.t (fr + x.bit) (dp + 1) q).map fun r => (r.1, (if t.sh = 5 then [⟨fr / 8, bsz (d + 1) t, dp, i⟩] else []) ++ r.2)
          | _, _ => none
section
variable {d : Nat} {t : Nd (Tp d)} {fr dp i : Int} {p q : List Int}
theorem walk_num (h : t.sh = 1 ∨ t.sh = 2) : walkS (d + 1) t fr dp [] = some (⟨fr, 8 * bsz (d + 1) t, if t.sh = 2 then 8 else t.k⟩, []) := by
  show (if Nd.sh t = 1 ∨ Nd.sh t = 2 then _ else _) = _
  rw [if_pos h]
theorem walk_num_no (h : t.sh = 1 ∨ t.sh = 2) (hp : p ≠ []) : walkS (d + 1) t fr dp p = none := by
  show (if Nd.sh t = 1 ∨ Nd.sh t = 2 then _ else _) = _
  rw [if_pos h]
  cases p with
  | nil => exact absurd rfl hp
  | cons => rfl
theorem walk_nil (h : ¬ (t.sh = 1 ∨ t.sh = 2)) : walkS (d + 1) t fr dp [] = none := by
  show (if Nd.sh t = 1 ∨ Nd.sh t = 2 then _ else _) = _
  rw [if_neg h]
theorem walk_neg (h : ¬ (t.sh = 1 ∨ t.sh = 2)) (hi : i < 0) : walkS (d + 1) t fr dp (i :: q) = none := by
  show (if Nd.sh t = 1 ∨ Nd.sh t = 2 then _ else _) = _
  rw [if_neg h]
  show (if i < 0 then none else _) = _
  rw [if_pos hi]
theorem walk_arr_no (h : t.sh = 3) (hi : 0 ≤ i) (hn : t.n ≤ i) : walkS (d + 1) t fr dp (i :: q) = none := by
  show (if Nd.sh t = 1 ∨ Nd.sh t = 2 then _ else _) = _
  rw [if_neg (by omega)]
  show (if i < 0 then none else if Nd.sh t = 3 then (if Nd.n t ≤ i then none else _) else _) = _
  rw [if_neg (by omega), if_pos h, if_pos hn]
theorem walk_arr {x : Tp d} (h : t.sh = 3) (hi : 0 ≤ i) (hn : i < t.n) (ho : t.of = [x]) : walkS (d + 1) t fr dp (i :: q) = walkS d x (fr + 8 * bsz d x * i) (dp + 1) q := by
  show (if Nd.sh t = 1 ∨ Nd.sh t = 2 then _ else _) = _
  rw [if_neg (by omega)]
  show (if i < 0 then none else if Nd.sh t = 3 then (if Nd.n t ≤ i then none else match t.of with | x :: _ => walkS d x (fr + 8 * bsz d x * i) (dp + 1) q | [] => none) else _) = _
  rw [if_neg (by omega), if_pos h, if_neg (by omega), ho]
theorem walk_cmp_far (h : t.sh = 4 ∨ t.sh = 5) (hi : 0 ≤ i) (hn : t.fs.length ≤ i.toNat) : walkS (d + 1) t fr dp (i :: q) = none := by
  show (if Nd.sh t = 1 ∨ Nd.sh t = 2 then _ else _) = _
  rw [if_neg (by omega)]
  show (if i < 0 then none else if Nd.sh t = 3 then _ else match t.fs[i.toNat]?, (boxD (d + 1) t).l[i.toNat]? with | some f, some x => _ | _, _ => none) = _
  rw [if_neg (by omega), if_neg (by omega), List.getElem?_eq_none hn]
theorem walk_cmp {f : Fld (Tp d)} {x : Spt} (h : t.sh = 4 ∨ t.sh = 5) (hi : 0 ≤ i) (hf : t.fs[i.toNat]? = some f) (hx : (boxD (d + 1) t).l[i.toNat]? = some x) :
    walkS (d + 1) t fr dp (i :: q) = if f.bits = 0 then none else if 0 < f.bits then (match q with
              | [] => some (⟨fr + x.bit, x.bits, x.k⟩, if t.sh = 5 then [⟨fr / 8, bsz (d + 1) t, dp, i⟩] else [])
              | _ => none)
            else (walkS d f.t (fr + x.bit) (dp + 1) q).map fun r => (r.1, (if t.sh = 5 then [⟨fr / 8, bsz (d + 1) t, dp, i⟩] else []) ++ r.2) := by
  show (if Nd.sh t = 1 ∨ Nd.sh t = 2 then _ else _) = _
  rw [if_neg (by omega)]
  show (if i < 0 then none else if Nd.sh t = 3 then _ else match t.fs[i.toNat]?, (boxD (d + 1) t).l[i.toNat]? with | some f, some x => _ | _, _ => none) = _
  rw [if_neg (by omega), if_neg (by omega), hf, hx]
end
def stpC (L : List Stp) : List Value := L.flatMap fun s => [.int .i64 s.from_, .int .i64 s.size, .int .i64 s.deep, .int .i64 s.member]
theorem stpC_snoc (L : List Stp) (s : Stp) : stpC (L ++ [s]) = stpC L ++ [.int .i64 s.from_, .int .i64 s.size, .int .i64 s.deep, .int .i64 s.member] := by simp [stpC]
theorem info125 : (Try.prog.info? 125).map (fun i => (i.zero, i.size, i.bytes)) = some (some (.agg #[.int .i64 0, .int .i64 0, .int .i64 0, .int .i64 0]), 4, 32) := by kernel_rfl
theorem results90 {tmps : Array Value} {W : World} {g : Nat} {v0 v1 v2 v3 : Value} {b : Bool} (h4 : tmps.getD 4 undef = .pointer (some ⟨g, 0, none⟩)) (h5 : tmps.getD 5 undef = .bool b) (h : Bk W g 119 #[v0, v1, v2, v3]) :
    (results Try.f90 tmps).run Try.prog W = .ok (.tuple #[.agg #[v0, v1, v2, v3], .bool b]) W := by
  have c0 : W.cell? ⟨g, 0, none⟩ = some v0 := h.at_ (i := 0) rfl
  have c1 : W.cell? ⟨g, 1, none⟩ = some v1 := h.at_ (i := 1) rfl
  have c2 : W.cell? ⟨g, 2, none⟩ = some v2 := h.at_ (i := 2) rfl
  have c3 : W.cell? ⟨g, 3, none⟩ = some v3 := h.at_ (i := 3) rfl
  rw [Array.getD_eq_getD_getElem?] at h4 h5
  simp [results, Try.results90, go_sem, h4, h5, c0, c1, c2, c3]
end Go.Proofs.Ytcggghamnmflcaa
namespace Go.Proofs.Ytcggghamnmflcaa
open Go Go.RowKit Go.Shelf
def StpsAt (w : World) (A : Option Addr) (n : Nat) (l : List Stp) : Prop :=
  n = l.length ∧ ∀ i s, l[i]? = some s → ∃ b o, A = some ⟨b, o, none⟩ ∧ w.cell? ⟨b, o + i * 4, none⟩ = some (.int .i64 s.from_) ∧ w.cell? ⟨b, o + i * 4 + 1, none⟩ = some (.int .i64 s.size) ∧ w.cell? ⟨b, o + i * 4 + 2, none⟩ = some (.int .i64 s.deep) ∧ w.cell? ⟨b, o + i * 4 + 3, none⟩ = some (.int .i64 s.member)
theorem StpsAt.below {w w1 : World} {A : Option Addr} {n : Nat} {l : List Stp} (h : StpsAt w A n l) (hb : Below w.heap.size w w1) : StpsAt w1 A n l :=
  ⟨h.1, fun i s hs => by
    obtain ⟨b, o, ha, h0, h1, h2, h3⟩ := h.2 i s hs
    exact ⟨b, o, ha, bel_cell hb h0, bel_cell hb h1, bel_cell hb h2, bel_cell hb h3⟩⟩
theorem stpC_get {L : List Stp} {i : Nat} {s : Stp} (hs : L[i]? = some s) : (stpC L)[i * 4]? = some (.int .i64 s.from_) ∧ (stpC L)[i * 4 + 1]? = some (.int .i64 s.size) ∧ (stpC L)[i * 4 + 2]? = some (.int .i64 s.deep) ∧ (stpC L)[i * 4 + 3]? = some (.int .i64 s.member) := by
  induction L generalizing i with
  | nil => simp at hs
  | cons a L ih =>
    cases i with
    | zero =>
      obtain rfl : a = s := by simpa using hs
      exact ⟨rfl, rfl, rfl, rfl⟩
    | succ i =>
      have h := ih (i := i) (by simpa using hs)
      rw [show (i + 1) * 4 = i * 4 + 1 + 1 + 1 + 1 by omega, show i * 4 + 1 + 1 + 1 + 1 + 1 = (i * 4 + 1) + 1 + 1 + 1 + 1 by omega, show i * 4 + 1 + 1 + 1 + 1 + 2 = (i * 4 + 2) + 1 + 1 + 1 + 1 by omega, show i * 4 + 1 + 1 + 1 + 1 + 3 = (i * 4 + 3) + 1 + 1 + 1 + 1 by omega]
      exact h
theorem stps_of_row {W : World} {base : Nat} {A : Option Addr} {n c : Nat} {L : List Stp} (h : W.ownsRow base 125 4 (.slice A n c) L.length (stpC L)) (hn : n = L.length) : StpsAt W A n L := by
  refine ⟨hn, fun i s hs => ?_⟩
  obtain ⟨e0, e1, e2, e3⟩ := stpC_get hs
  rcases h.2 with ⟨h1, h2⟩ | ⟨g, cap, cur, h1, _⟩
  · injection h1 with a1 a2 a3
    subst a2
    rw [List.length_eq_zero_iff.1 hn.symm] at hs
    simp at hs
  · injection h1 with a1 a2 a3
    subst a1
    have hc := fun j u hu => h.cells (g := g) rfl j u hu
    have hz : ∀ j : Nat, ((⟨g, 0, none⟩ : Addr).add j) = ⟨g, 0 + j, none⟩ := fun j => add_off _ rfl j
    refine ⟨g, 0, rfl, ?_, ?_, ?_, ?_⟩
    · have := hc _ _ e0; rw [hz] at this; exact this
    · have := hc _ _ e1; rw [hz] at this; exact this
    · have := hc _ _ e2; rw [hz] at this; exact this
    · have := hc _ _ e3; rw [hz] at this; exact this
theorem row_fresh {W : World} {base b0 : Nat} {A : Option Addr} {n m c : Nat} {L : List Value} {E : TypeId} {z : Nat} (h : W.ownsRow base E z (.slice A n c) m L) (hb : b0 ≤ base) : ∀ a, A = some a → b0 ≤ a.block := fun a ha => by
  rcases h.2 with ⟨h1, _⟩ | ⟨g, cap, cur, h1, hg, _⟩
  · injection h1 with a1
    rw [a1] at ha
    cases ha
  · injection h1 with a1
    rw [a1] at ha
    cases ha
    exact Nat.le_trans hb hg
/-- Steps in a block that is not older. -/
def StpsF (base : Nat) (w : World) (A : Option Addr) (n : Nat) (l : List Stp) : Prop := StpsAt w A n l ∧ ∀ a, A = some a → base ≤ a.block
theorem StpsF.set_ {base : Nat} {w : World} {A : Option Addr} {n : Nat} {l : List Stp} (h : StpsF base w A n l) {g : Nat} (hg : g < base) (i : Nat) (v : Value) : StpsF base (w.setCell ⟨g, i, none⟩ v) A n l := by
  refine ⟨⟨h.1.1, fun j s hs => ?_⟩, h.2⟩
  obtain ⟨b, o, ha, c0, c1, c2, c3⟩ := h.1.2 j s hs
  have hb := h.2 _ ha
  simp only at hb
  have e : ∀ k, (w.setCell ⟨g, i, none⟩ v).cell? ⟨b, k, none⟩ = w.cell? ⟨b, k, none⟩ := fun k => World.cell?_of_block (Below.heap_setCell w ⟨g, i, none⟩ v b (by dsimp only; omega))
  exact ⟨b, o, ha, (e _).trans c0, (e _).trans c1, (e _).trans c2, (e _).trans c3⟩
theorem StpsF.below {base : Nat} {w w1 : World} {A : Option Addr} {n : Nat} {l : List Stp} (h : StpsF base w A n l) (hb : Below w.heap.size w w1) : StpsF base w1 A n l := ⟨h.1.below hb, h.2⟩
theorem StpsF.mono {base b1 : Nat} {w : World} {A : Option Addr} {n : Nat} {l : List Stp} (h : StpsF base w A n l) (hb : b1 ≤ base) : StpsF b1 w A n l := ⟨h.1, fun a ha => Nat.le_trans hb (h.2 a ha)⟩
theorem IntsAt.tail {w : World} {b o : Nat} {x : Int} {l : List Int} (h : IntsAt w (some ⟨b, o, none⟩) (l.length + 1) (x :: l)) : IntsAt w (some ⟨b, o + 1, none⟩) l.length l :=
  ⟨rfl, fun i v hv => by
    obtain ⟨b', o', he, hc⟩ := h.2 (i + 1) v (by simpa using hv)
    cases he
    refine ⟨b, o + 1, rfl, ?_⟩
    rw [show o + 1 + i = o + (i + 1) by omega]
    exact hc⟩
/-- What follow answers. -/
def FolP (d : Nat) (t : Tp d) (p : List Int) (w : World) (e : Ending) (w' : World) : Prop :=
  ∃ (s : Spt) (B : Option Addr) (k c' : Nat), e = .returned (.tuple #[.agg #[.int .i64 s.bit, .int .i64 s.bits, .int .i64 s.k, .slice B k c'], .bool (walkS d t 0 0 p).isSome]) ∧
    (∀ s' us, walkS d t 0 0 p = some (s', us) → s = s' ∧ StpsF w.heap.size w' B k us) ∧ Below w.heap.size w w'
def slLen : Value → Nat
  | .slice _ n _ => n
  | _ => 0
/-- What follow's variables hold in memory. -/
structure FolM (w : World) (x0 x1 x2 x3 x4 x5 x6 : Value) (U : List Stp) (S : Value) (W : World) : Prop where
  g2 : Bk W w.heap.size 38 #[x0, x1, x2, x3, x4, x5, x6]
  g4 : Bk W (w.heap.size + 1) 119 #[.int .i64 0, .int .i64 0, .int .i64 0, .slice none 0 0]
  g6 : Bk W (w.heap.size + 1 + 1) 119 #[.int .i64 0, .int .i64 0, .int .i64 0, S]
  row : W.ownsRow (w.heap.size + 1 + 1 + 1) 125 4 S U.length (stpC U)
  bel : Below w.heap.size w W
  sz : w.heap.size + 1 + 1 + 1 ≤ W.heap.size
/-- Where the way ends. -/
structure FolE (w : World) (s : Spt) (U : List Stp) (S : Value) (W : World) : Prop where
  g4 : Bk W (w.heap.size + 1) 119 #[.int .i64 0, .int .i64 0, .int .i64 0, .slice none 0 0]
  g6 : Bk W (w.heap.size + 1 + 1) 119 #[.int .i64 s.bit, .int .i64 s.bits, .int .i64 s.k, S]
  row : W.ownsRow (w.heap.size + 1 + 1 + 1) 125 4 S U.length (stpC U)
  bel : Below w.heap.size w W
  sz : w.heap.size + 1 + 1 + 1 ≤ W.heap.size
theorem row_not {W : World} {base g n : Nat} {S : Value} {L : List Value} {E : TypeId} {z : Nat} (h : W.ownsRow base E z S n L) (hg : g < base) : S.ownBlock ≠ some g := fun e => by
  have := (ownT h g e).1
  omega
theorem rset {W : World} {base g n : Nat} {S : Value} {L : List Value} {E : TypeId} {z : Nat} (h : W.ownsRow base E z S n L) (hg : g < base) (i : Nat) (v : Value) : (W.setCell ⟨g, i, none⟩ v).ownsRow base E z S n L :=
  h.kept (row := some g) (grown_set W g i v) (.inr (row_not h hg))
theorem FolM.below {w : World} {x0 x1 x2 x3 x4 x5 x6 : Value} {U : List Stp} {S : Value} {W W1 : World} (h : FolM w x0 x1 x2 x3 x4 x5 x6 U S W) (hb : Below W.heap.size W W1) : FolM w x0 x1 x2 x3 x4 x5 x6 U S W1 :=
  ⟨h.g2.below hb h.g2.lt, h.g4.below hb h.g4.lt, h.g6.below hb h.g6.lt, h.row.kept (grown_none hb) (by cases S.ownBlock <;> simp), h.bel.trans (hb.mono h.bel.size), Nat.le_trans h.sz hb.size⟩
theorem FolM.spot {w : World} {x0 x1 x2 x3 x4 x5 x6 : Value} {U : List Stp} {S : Value} {W : World} (h : FolM w x0 x1 x2 x3 x4 x5 x6 U S W) (a b c : Int) :
    FolE w ⟨a, b, c⟩ U S (((W.setCell ⟨w.heap.size + 1 + 1, 0, none⟩ (.int .i64 a)).setCell ⟨w.heap.size + 1 + 1, 1, none⟩ (.int .i64 b)).setCell ⟨w.heap.size + 1 + 1, 2, none⟩ (.int .i64 c)) := by
  refine ⟨((h.g4.far (p := ⟨w.heap.size + 1 + 1, 0, none⟩) (by dsimp only; omega) _).far (p := ⟨w.heap.size + 1 + 1, 1, none⟩) (by dsimp only; omega) _).far (p := ⟨w.heap.size + 1 + 1, 2, none⟩) (by dsimp only; omega) _, ?_, rset (rset (rset h.row (g := w.heap.size + 1 + 1) (by omega) 0 _) (g := w.heap.size + 1 + 1) (by omega) 1 _) (g := w.heap.size + 1 + 1) (by omega) 2 _, ((h.bel.setCell (p := ⟨w.heap.size + 1 + 1, 0, none⟩) (by simp; omega) _).setCell (p := ⟨w.heap.size + 1 + 1, 1, none⟩) (by simp; omega) _).setCell (p := ⟨w.heap.size + 1 + 1, 2, none⟩) (by simp; omega) _, by have := h.sz; simpa using this⟩
  have e := ((h.g6.set_ 0 (.int .i64 a)).set_ 1 (.int .i64 b)).set_ 2 (.int .i64 c)
  simp only [List.setIfInBounds_toArray, List.set_cons_zero, List.set_cons_succ] at e
  exact e
theorem FolE.setk {w : World} {a b c : Int} {U : List Stp} {S : Value} {W : World} (h : FolE w ⟨a, b, c⟩ U S W) (k : Int) : FolE w ⟨a, b, k⟩ U S (W.setCell ⟨w.heap.size + 1 + 1, 2, none⟩ (.int .i64 k)) := by
  refine ⟨h.g4.far (p := ⟨w.heap.size + 1 + 1, 2, none⟩) (by dsimp only; omega) _, ?_, rset h.row (g := w.heap.size + 1 + 1) (by omega) 2 _, h.bel.setCell (p := ⟨w.heap.size + 1 + 1, 2, none⟩) (by simp; omega) _, by have := h.sz; simpa using this⟩
  have e := h.g6.set_ 2 (.int .i64 k)
  simp only [List.setIfInBounds_toArray, List.set_cons_zero, List.set_cons_succ] at e
  exact e
theorem FolM.next {w : World} {x0 x1 x2 x3 x4 x5 x6 : Value} {U : List Stp} {S : Value} {W : World} (h : FolM w x0 x1 x2 x3 x4 x5 x6 U S W) (z0 z1 z2 z3 z4 z5 z6 : Value) :
    FolM w z0 z1 z2 z3 z4 z5 z6 U S (((((((W.setCell ⟨w.heap.size, 0, none⟩ z0).setCell ⟨w.heap.size, 1, none⟩ z1).setCell ⟨w.heap.size, 2, none⟩ z2).setCell ⟨w.heap.size, 3, none⟩ z3).setCell ⟨w.heap.size, 4, none⟩ z4).setCell ⟨w.heap.size, 5, none⟩ z5).setCell ⟨w.heap.size, 6, none⟩ z6) := by
  have step : ∀ {y0 y1 y2 y3 y4 y5 y6 : Value} {W : World} (i : Nat) (v : Value), FolM w y0 y1 y2 y3 y4 y5 y6 U S W → Bk (W.setCell ⟨w.heap.size, i, none⟩ v) w.heap.size 38 ((#[y0, y1, y2, y3, y4, y5, y6] : Array Value).setIfInBounds i v) ∧ Bk (W.setCell ⟨w.heap.size, i, none⟩ v) (w.heap.size + 1) 119 #[.int .i64 0, .int .i64 0, .int .i64 0, .slice none 0 0] ∧ Bk (W.setCell ⟨w.heap.size, i, none⟩ v) (w.heap.size + 1 + 1) 119 #[.int .i64 0, .int .i64 0, .int .i64 0, S] ∧ (W.setCell ⟨w.heap.size, i, none⟩ v).ownsRow (w.heap.size + 1 + 1 + 1) 125 4 S U.length (stpC U) ∧ Below w.heap.size w (W.setCell ⟨w.heap.size, i, none⟩ v) ∧ w.heap.size + 1 + 1 + 1 ≤ (W.setCell ⟨w.heap.size, i, none⟩ v).heap.size := fun i v k =>
    ⟨k.g2.set_ i v, k.g4.far (p := ⟨w.heap.size, i, none⟩) (by dsimp only; omega) _, k.g6.far (p := ⟨w.heap.size, i, none⟩) (by dsimp only; omega) _, rset k.row (g := w.heap.size) (by omega) i _, k.bel.setCell (p := ⟨w.heap.size, i, none⟩) (Nat.le_refl _) _, by have := k.sz; simpa using this⟩
  have mk : ∀ {y0 y1 y2 y3 y4 y5 y6 : Value} {W : World}, (Bk W w.heap.size 38 #[y0, y1, y2, y3, y4, y5, y6] ∧ Bk W (w.heap.size + 1) 119 #[.int .i64 0, .int .i64 0, .int .i64 0, .slice none 0 0] ∧ Bk W (w.heap.size + 1 + 1) 119 #[.int .i64 0, .int .i64 0, .int .i64 0, S] ∧ W.ownsRow (w.heap.size + 1 + 1 + 1) 125 4 S U.length (stpC U) ∧ Below w.heap.size w W ∧ w.heap.size + 1 + 1 + 1 ≤ W.heap.size) → FolM w y0 y1 y2 y3 y4 y5 y6 U S W := fun ⟨a, b, c, d, e, f⟩ => ⟨a, b, c, d, e, f⟩
  have e0 := mk (step 0 z0 h)
  have e1 := mk (step 1 z1 e0)
  have e2 := mk (step 2 z2 e1)
  have e3 := mk (step 3 z3 e2)
  have e4 := mk (step 4 z4 e3)
  have e5 := mk (step 5 z5 e4)
  exact mk (step 6 z6 e5)
theorem FolM.app {w : World} {x0 x1 x2 x3 x4 x5 x6 : Value} {U : List Stp} {S v' : Value} {W w7 : World} {o : Obj} {s : Stp} (h : FolM w x0 x1 x2 x3 x4 x5 x6 U S W)
    (hown : w7.ownsRow (w.heap.size + 1 + 1 + 1) 125 4 v' (U.length + 1) (stpC U ++ [.int .i64 s.from_, .int .i64 s.size, .int .i64 s.deep, .int .i64 s.member])) (hg : (W.alloc o).grownBy w7 S.ownBlock) :
    Bk w7 (w.heap.size + 1 + 1) 119 #[.int .i64 0, .int .i64 0, .int .i64 0, S] ∧ FolM w x0 x1 x2 x3 x4 x5 x6 (U ++ [s]) v' (w7.setCell ⟨w.heap.size + 1 + 1, 3, none⟩ v') := by
  have hne : ∀ g, g < w.heap.size + 1 + 1 + 1 → some g ≠ S.ownBlock := fun g hg' => Ne.symm (row_not h.row hg')
  have a2 := (h.g2.alloc o).grown hg (hne _ (by omega))
  have a4 := (h.g4.alloc o).grown hg (hne _ (by omega))
  have a6 := (h.g6.alloc o).grown hg (hne _ (by omega))
  refine ⟨a6, a2.far (p := ⟨w.heap.size + 1 + 1, 3, none⟩) (by dsimp only; omega) _, a4.far (p := ⟨w.heap.size + 1 + 1, 3, none⟩) (by dsimp only; omega) _, ?_, ?_, ?_, ?_⟩
  · have e := a6.set_ 3 v'
    simp only [List.setIfInBounds_toArray, List.set_cons_zero, List.set_cons_succ] at e
    exact e
  · rw [stpC_snoc, List.length_append]
    exact rset hown (g := w.heap.size + 1 + 1) (by omega) 3 _
  · have h1 := bel_alloc h.bel o
    have h2 := h1.grown hg h1.size (fun k e => by have := (ownT h.row k e).1; omega)
    exact h2.setCell (p := ⟨w.heap.size + 1 + 1, 3, none⟩) (by simp; omega) _
  · have h1 := hg.size
    have h2 := h.sz
    simp at h1 ⊢
    omega
/-- Behind some steps: what is left of the way. -/
structure FolI (w : World) (d : Nat) (t : Tp d) (p : List Int) (m : Nat) (τ : Tp m) (bb : Bx) (kk : Int) (x0 x1 x2 x3 x4 x5 x6 : Value) (q : List Int) (A' : Option Addr) (c' : Nat) (fr dp : Int) (U : List Stp) (S : Value) (W : World) : Prop where
  pl : plainS m τ kk = true
  k6 : kk ≤ 6
  bx : boxS m τ = some bb
  ty : TyAt w m τ [x0, x1, x2, x3, x4, x5, x6]
  mem : FolM w x0 x1 x2 x3 x4 x5 x6 U S W
  ints : IntsAt w A' q.length q
  hc1 : q.length ≤ c'
  hc2 : c' ≤ 9223372036854775807
  eq : walkS d t 0 0 p = (walkS m τ fr dp q).map fun r => (r.1, U ++ r.2)
  f0 : 0 ≤ fr
  f1 : fr + 8 * bb.size ≤ 524288
  d0 : 0 ≤ dp
  d1 : dp + q.length ≤ 9223372036854775807
  u2 : (U.length : Int) + kk ≤ 6
theorem plain_low1 {d : Nat} {t : Tp d} {k : Int} (h : plainS d t k = true) : 1 ≤ k := by
  cases d with
  | zero => exact nomatch t
  | succ d =>
    rcases Int.lt_or_le k 1 with h1 | h1
    · rw [show plainS (d + 1) t k = false from plain_low (t := t) h1] at h; cases h
    · exact h1
theorem plain_arr {d : Nat} {t : Nd (Tp d)} {x : Tp d} {k : Int} (h : plainS (d + 1) t k = true) (hs : t.sh = 3) (ho : t.of = [x]) : plainS d x (k - 1) = true := by
  have h1 := plain_low1 (d := d + 1) (t := t) h
  cases hx : (bareS t && (t.k == 0 && (decide (1 ≤ t.n) && decide (t.of.length = 1)))) with
  | false => rw [show plainS (d + 1) t k = _ from plain_3no h1 hs hx] at h; cases h
  | true =>
    simp only [Bool.and_eq_true, beq_iff_eq, decide_eq_true_eq] at hx
    obtain ⟨q1, q2, q3, q4⟩ := hx
    rw [show plainS (d + 1) t k = _ from plain_3 h1 hs q1 q2 q3 ho] at h
    exact h
theorem plain_fld {d : Nat} {t : Nd (Tp d)} {f : Fld (Tp d)} {k : Int} (h : plainS (d + 1) t k = true) (hs : t.sh = 4 ∨ t.sh = 5) (hf : f ∈ t.fs) : plainS d f.t (k - 1) = true := by
  have h1 := plain_low1 (d := d + 1) (t := t) h
  rw [show plainS (d + 1) t k = _ from plain_45 h1 hs] at h
  unfold fieldsS at h
  simp only [Bool.and_eq_true] at h
  have h2 := h.2.2.2.2.2
  rw [List.all_eq_true] at h2
  exact (fld_parts (h2 f hf)).1
theorem plain_sh {d : Nat} {t : Nd (Tp d)} {k : Int} (h : plainS (d + 1) t k = true) : t.sh = 1 ∨ t.sh = 2 ∨ t.sh = 3 ∨ t.sh = 4 ∨ t.sh = 5 := by
  have h1 := plain_low1 (d := d + 1) (t := t) h
  by_cases e1 : t.sh = 1; · exact .inl e1
  by_cases e2 : t.sh = 2; · exact .inr (.inl e2)
  by_cases e3 : t.sh = 3; · exact .inr (.inr (.inl e3))
  by_cases e4 : t.sh = 4; · exact .inr (.inr (.inr (.inl e4)))
  by_cases e5 : t.sh = 5; · exact .inr (.inr (.inr (.inr e5)))
  rw [show plainS (d + 1) t k = _ from plain_else e1 e2 e3 e4 e5] at h
  cases h
set_option maxRecDepth 100000 in
set_option maxHeartbeats 8000000 in
theorem follow_c {d : Nat} {t : Tp d} {v0 v1 v2 v3 v4 v5 v6 : Value} (A : Option Addr) (p : List Int) (c : Nat) (w : World) {b : Bx} (hp : plainS d t 6 = true) (hb : boxS d t = some b) (ht : TyAt w d t [v0, v1, v2, v3, v4, v5, v6]) (hP : IntsAt w A p.length p) (hc1 : p.length ≤ c) (hc2 : c ≤ 9223372036854775807) :
    Calls Try.prog 90 #[.agg #[v0, v1, v2, v3, v4, v5, v6], .slice A p.length c] w (FolP d t p w) := by
  unfold FolP
  have hok0 := boxS_ok d t 6 b hp hb
  go_enter Try.func90, Try.ntmps90
  go_wp2_with fail
  go_step3
  go_wp2_with fail
  go_step3
  go_wp2_with fail
  have q2 := ((Bk.new w 38 #[v0, v1, v2, v3, v4, v5, v6]).alloc (.cells #[.int .i64 0, .int .i64 0, .int .i64 0, .slice none 0 0] 119)).alloc (.cells #[.int .i64 0, .int .i64 0, .int .i64 0, .slice none 0 0] 119)
  have q4 := (Bk.new1 w (.cells #[v0, v1, v2, v3, v4, v5, v6] 38) 119 #[.int .i64 0, .int .i64 0, .int .i64 0, .slice none 0 0]).alloc (.cells #[.int .i64 0, .int .i64 0, .int .i64 0, .slice none 0 0] 119)
  have q6 := Bk.new2 w (.cells #[v0, v1, v2, v3, v4, v5, v6] 38) (.cells #[.int .i64 0, .int .i64 0, .int .i64 0, .slice none 0 0] 119) 119 #[.int .i64 0, .int .i64 0, .int .i64 0, .slice none 0 0]
  have hbl := bel_alloc (bel_alloc (bel_alloc (Below.refl _ w) (.cells #[v0, v1, v2, v3, v4, v5, v6] 38)) (.cells #[.int .i64 0, .int .i64 0, .int .i64 0, .slice none 0 0] 119)) (.cells #[.int .i64 0, .int .i64 0, .int .i64 0, .slice none 0 0] 119)
  have hsz : w.heap.size + 1 + 1 + 1 ≤ (((w.alloc (.cells #[v0, v1, v2, v3, v4, v5, v6] 38)).alloc (.cells #[.int .i64 0, .int .i64 0, .int .i64 0, .slice none 0 0] 119)).alloc (.cells #[.int .i64 0, .int .i64 0, .int .i64 0, .slice none 0 0] 119)).heap.size := by simp
  generalize World.alloc (World.alloc (World.alloc w _) _) _ = W1 at q2 q4 q6 hbl hsz ⊢
  go_loopw [1, 7, 8] (fun s1 s7 s8 wr => ∃ (m : Nat) (τ : Tp m) (bb : Bx) (kk : Int) (x0 x1 x2 x3 x4 x5 x6 : Value) (q : List Int) (A' : Option Addr) (c' : Nat) (fr dp : Int) (U : List Stp) (S : Value), s1 = .slice A' q.length c' ∧ s7 = .int .i64 fr ∧ s8 = .int .i64 dp ∧ FolI w d t p m τ bb kk x0 x1 x2 x3 x4 x5 x6 q A' c' fr dp U S wr) (fun s1 _ _ _ => slLen s1)
  case atStart => exact ⟨d, t, b, 6, v0, v1, v2, v3, v4, v5, v6, p, A, c, 0, 0, [], .slice none 0 0, rfl, rfl, rfl, hp, by decide, hb, ht, ⟨q2, q4, q6, World.ownsRow_nil _ _ _ _, hbl, hsz⟩, hP, hc1, hc2, by cases walkS d t 0 0 p <;> simp, by decide, by have := hok0.2.1; omega, by decide, by omega, by simp⟩
  case round =>
    clear q2 q4 q6 hbl hsz ht hP
    obtain ⟨m, τ, bb, kk, x0, x1, x2, x3, x4, x5, x6, q, A', c', fr, dp, U, S, rfl, rfl, rfl, hI⟩ := hrel
    cases m with
    | zero => exact nomatch τ
    | succ m =>
      obtain ⟨τ', rfl⟩ : ∃ τ' : Nd (Tp m), τ = τ' := ⟨τ, rfl⟩
      obtain ⟨A1, A2, c1, c2, hcs, b1, b2, b3, b4, l1, l2, m1, m2, hof, hfs⟩ := id hI.ty
      simp only [List.cons.injEq, and_true] at hcs
      obtain ⟨rfl, rfl, rfl, rfl, rfl, rfl, rfl⟩ := hcs
      have h6 := plain_mono _ _ _ 6 hI.pl hI.k6
      have he := err_of h6 (by omega) hI.bx
      have hok := boxS_ok _ _ _ _ h6 hI.bx
      have hss := plain_sh h6
      have HS := ssize_c (hI.ty.below hI.mem.bel)
      rw [he.1, he.2.2.1, he.2.2.2] at HS
      replace HS := Lib.hid HS
      obtain ⟨sz, hsz⟩ : ∃ x, bb.size = x := ⟨_, rfl⟩
      obtain ⟨ag, hag⟩ : ∃ x, bb.align = x := ⟨_, rfl⟩
      rw [hsz, hag] at HS
      have y1 : 1 ≤ sz ∧ sz ≤ 65536 := by have := hok.1; have := hok.2.1; omega
      have y2 : 0 ≤ fr := hI.f0
      have y3 : fr + 8 * sz ≤ 524288 := by have := hI.f1; omega
      have HSZ := Lib.hid hsz
      have t0 := hI.mem.g2.at_ (i := 0) rfl; have t1 := hI.mem.g2.at_ (i := 1) rfl; have t2 := hI.mem.g2.at_ (i := 2) rfl; have t3 := hI.mem.g2.at_ (i := 3) rfl; have t4 := hI.mem.g2.at_ (i := 4) rfl; have t5 := hI.mem.g2.at_ (i := 5) rfl; have t6 := hI.mem.g2.at_ (i := 6) rfl
      have HI := Lib.hid hI
      have HEQ0 := Lib.hid hI.eq
      obtain ⟨SB, Sc, rfl⟩ : ∃ SB Sc, S = .slice SB U.length Sc := by
        rcases hI.mem.row.2 with ⟨h1, h2⟩ | ⟨g, cap, _, h1, _⟩
        · exact ⟨none, 0, by rw [h2]; exact h1⟩
        · exact ⟨_, _, h1⟩
      have hbs : bsz (m + 1) τ = sz := by unfold bsz; rw [he.2.1, hsz]
      have HBS := Lib.hid hbs
      have HH6 := Lib.hid h6
      have HE := Lib.hid he
      have HOF := Lib.hid (show TysAt w m A1 τ.of from hof)
      have HFS := Lib.hid (show FdsAt w m A2 τ.fs from hfs)
      have HMEM := Lib.hid (fun W hb => hI.mem.below (W1 := W) hb)
      clear hI hsz hag he hok h6 hbs hof hfs
      obtain ⟨sh, hsh⟩ : ∃ x, τ.sh = x := ⟨_, rfl⟩
      rw [hsh] at hss t0 HS
      go_wp2_with fail
      refine HS.out.mono ?_
      rintro e w2 ⟨rfl, hb2⟩
      have hM := HMEM.out _ hb2
      clear t0 t1 t2 t3 t4 t5 t6 HS hb2 HMEM
      have t0 := hM.g2.at_ (i := 0) rfl; have t1 := hM.g2.at_ (i := 1) rfl; have t2 := hM.g2.at_ (i := 2) rfl; have t3 := hM.g2.at_ (i := 3) rfl; have t4 := hM.g2.at_ (i := 4) rfl
      rw [hsh] at t0
      have HM := Lib.hid hM
      clear hM
      have HSH := Lib.hid hsh
      by_cases h12 : sh = 1 ∨ sh = 2
      · have f60 := HM.out.g6.frozen 0; have f61 := HM.out.g6.frozen 1; have f62 := HM.out.g6.frozen 2
        have u60 := HM.out.g6.at_ (i := 0) rfl; have u61 := HM.out.g6.at_ (i := 1) rfl; have u62 := HM.out.g6.at_ (i := 2) rfl
        have HW : ∃ nq : Nat, q.length = nq := ⟨_, rfl⟩
        obtain ⟨nq, hnq⟩ := HW
        rw [hnq]
        obtain ⟨k, hk⟩ : ∃ x, τ.k = x := ⟨_, rfl⟩
        rw [hk] at t1 ⊢
        rcases h12 with rfl | rfl
        · go_upto_region 31 with (fail)
          have hE := HM.out.spot fr (8 * sz) k
          generalize World.setCell _ _ _ = W3 at hE ⊢
          have f40 := hE.g4.frozen 0; have f41 := hE.g4.frozen 1; have f42 := hE.g4.frozen 2; have f43 := hE.g4.frozen 3
          have u40 := hE.g4.at_ (i := 0) rfl; have u41 := hE.g4.at_ (i := 1) rfl; have u42 := hE.g4.at_ (i := 2) rfl; have u43 := hE.g4.at_ (i := 3) rfl
          have n60 := hE.g6.at_ (i := 0) rfl; have n61 := hE.g6.at_ (i := 1) rfl; have n62 := hE.g6.at_ (i := 2) rfl; have n63 := hE.g6.at_ (i := 3) rfl
          have HE3 := Lib.hid hE
          clear hE
          obtain ⟨ok, hok⟩ : ∃ x, ((nq : Int) == 0) = x := ⟨_, rfl⟩
          go_wp2_with fail
          have hg4 := HE3.out.g4
          have hrow := HE3.out.row
          have hbel := HE3.out.bel
          have hn4 := row_not hrow (show w.heap.size + 1 < w.heap.size + 1 + 1 + 1 by omega)
          have HEQ : ((ok = true ∧ walkS d t 0 0 p = some (⟨fr, 8 * sz, k⟩, U)) ∨ (ok = false ∧ walkS d t 0 0 p = none)) := by
            rw [HEQ0.out]
            cases q with
            | nil =>
              left
              refine ⟨by rw [← hok, ← hnq]; rfl, ?_⟩
              rw [walk_num (.inl HSH.out), HBS.out, if_neg (by rw [HSH.out]; decide), hk]; simp
            | cons i q' =>
              right
              refine ⟨by rw [← hok, ← hnq]; simp; omega, ?_⟩
              rw [walk_num_no (.inl HSH.out) (by simp)]; rfl
          have hre := ((((hg4.set_ 0 (.int .i64 fr)).set_ 1 (.int .i64 (8 * sz))).set_ 2 (.int .i64 k)).set_ 3 (.slice SB U.length Sc))
          have hrw := ((((hrow.kept (row := some (w.heap.size + 1)) (grown_set _ (w.heap.size + 1) 0 (.int .i64 fr)) (.inr hn4)).kept (row := some (w.heap.size + 1)) (grown_set _ (w.heap.size + 1) 1 (.int .i64 (8 * sz))) (.inr hn4)).kept (row := some (w.heap.size + 1)) (grown_set _ (w.heap.size + 1) 2 (.int .i64 k)) (.inr hn4)).kept (row := some (w.heap.size + 1)) (grown_set _ (w.heap.size + 1) 3 (.slice SB U.length Sc)) (.inr hn4))
          have hbl := ((((hbel.setCell (p := ⟨(w.heap.size + 1), 0, none⟩) (by simp) (.int .i64 fr)).setCell (p := ⟨(w.heap.size + 1), 1, none⟩) (by simp) (.int .i64 (8 * sz))).setCell (p := ⟨(w.heap.size + 1), 2, none⟩) (by simp) (.int .i64 k)).setCell (p := ⟨(w.heap.size + 1), 3, none⟩) (by simp) (.slice SB U.length Sc))
          simp only [List.setIfInBounds_toArray, List.set_cons_zero, List.set_cons_succ] at hre
          generalize World.setCell _ _ _ = W9 at hre hrw hbl ⊢
          rcases HEQ with ⟨rfl, hq⟩ | ⟨rfl, hq⟩
          · exact bodyPost_ret (results90 rfl rfl hre) rfl ⟨⟨fr, 8 * sz, k⟩, SB, U.length, Sc, by rw [hq]; rfl, fun s' us h => (by rw [hq] at h; cases h; exact ⟨rfl, stps_of_row hrw rfl, row_fresh hrw (by omega)⟩), hbl⟩
          · exact bodyPost_ret (results90 rfl rfl hre) rfl ⟨⟨fr, 8 * sz, k⟩, SB, U.length, Sc, by rw [hq]; rfl, fun s' us h => (by rw [hq] at h; cases h), hbl⟩
        · go_upto_region 31 with (fail)
          have hE := HM.out.spot fr (8 * sz) k
          have hE := hE.setk 8
          generalize World.setCell _ _ _ = W3 at hE ⊢
          have f40 := hE.g4.frozen 0; have f41 := hE.g4.frozen 1; have f42 := hE.g4.frozen 2; have f43 := hE.g4.frozen 3
          have u40 := hE.g4.at_ (i := 0) rfl; have u41 := hE.g4.at_ (i := 1) rfl; have u42 := hE.g4.at_ (i := 2) rfl; have u43 := hE.g4.at_ (i := 3) rfl
          have n60 := hE.g6.at_ (i := 0) rfl; have n61 := hE.g6.at_ (i := 1) rfl; have n62 := hE.g6.at_ (i := 2) rfl; have n63 := hE.g6.at_ (i := 3) rfl
          have HE3 := Lib.hid hE
          clear hE
          obtain ⟨ok, hok⟩ : ∃ x, ((nq : Int) == 0) = x := ⟨_, rfl⟩
          go_wp2_with fail
          have hg4 := HE3.out.g4
          have hrow := HE3.out.row
          have hbel := HE3.out.bel
          have hn4 := row_not hrow (show w.heap.size + 1 < w.heap.size + 1 + 1 + 1 by omega)
          have HEQ : ((ok = true ∧ walkS d t 0 0 p = some (⟨fr, 8 * sz, 8⟩, U)) ∨ (ok = false ∧ walkS d t 0 0 p = none)) := by
            rw [HEQ0.out]
            cases q with
            | nil =>
              left
              refine ⟨by rw [← hok, ← hnq]; rfl, ?_⟩
              rw [walk_num (.inr HSH.out), HBS.out, if_pos HSH.out]; simp
            | cons i q' =>
              right
              refine ⟨by rw [← hok, ← hnq]; simp; omega, ?_⟩
              rw [walk_num_no (.inr HSH.out) (by simp)]; rfl
          have hre := ((((hg4.set_ 0 (.int .i64 fr)).set_ 1 (.int .i64 (8 * sz))).set_ 2 (.int .i64 8)).set_ 3 (.slice SB U.length Sc))
          have hrw := ((((hrow.kept (row := some (w.heap.size + 1)) (grown_set _ (w.heap.size + 1) 0 (.int .i64 fr)) (.inr hn4)).kept (row := some (w.heap.size + 1)) (grown_set _ (w.heap.size + 1) 1 (.int .i64 (8 * sz))) (.inr hn4)).kept (row := some (w.heap.size + 1)) (grown_set _ (w.heap.size + 1) 2 (.int .i64 8)) (.inr hn4)).kept (row := some (w.heap.size + 1)) (grown_set _ (w.heap.size + 1) 3 (.slice SB U.length Sc)) (.inr hn4))
          have hbl := ((((hbel.setCell (p := ⟨(w.heap.size + 1), 0, none⟩) (by simp) (.int .i64 fr)).setCell (p := ⟨(w.heap.size + 1), 1, none⟩) (by simp) (.int .i64 (8 * sz))).setCell (p := ⟨(w.heap.size + 1), 2, none⟩) (by simp) (.int .i64 8)).setCell (p := ⟨(w.heap.size + 1), 3, none⟩) (by simp) (.slice SB U.length Sc))
          simp only [List.setIfInBounds_toArray, List.set_cons_zero, List.set_cons_succ] at hre
          generalize World.setCell _ _ _ = W9 at hre hrw hbl ⊢
          rcases HEQ with ⟨rfl, hq⟩ | ⟨rfl, hq⟩
          · exact bodyPost_ret (results90 rfl rfl hre) rfl ⟨⟨fr, 8 * sz, 8⟩, SB, U.length, Sc, by rw [hq]; rfl, fun s' us h => (by rw [hq] at h; cases h; exact ⟨rfl, stps_of_row hrw rfl, row_fresh hrw (by omega)⟩), hbl⟩
          · exact bodyPost_ret (results90 rfl rfl hre) rfl ⟨⟨fr, 8 * sz, 8⟩, SB, U.length, Sc, by rw [hq]; rfl, fun s' us h => (by rw [hq] at h; cases h), hbl⟩
      · have f40 := HM.out.g4.frozen 0; have f41 := HM.out.g4.frozen 1; have f42 := HM.out.g4.frozen 2; have f43 := HM.out.g4.frozen 3
        have u40 := HM.out.g4.at_ (i := 0) rfl; have u41 := HM.out.g4.at_ (i := 1) rfl; have u42 := HM.out.g4.at_ (i := 2) rfl; have u43 := HM.out.g4.at_ (i := 3) rfl
        have hs1 : sh ≠ 1 := fun h => h12 (.inl h)
        have hs2 : sh ≠ 2 := fun h => h12 (.inr h)
        have hd1 : (sh == 1) = false := by simpa using hs1
        have hd2 : (sh == 2) = false := by simpa using hs2
        have HNW := Lib.hid (show ¬ (τ.sh = 1 ∨ τ.sh = 2) by rw [HSH.out]; exact h12)
        cases q with
        | nil =>
          have HEQ := Lib.hid (show walkS d t 0 0 p = none by rw [HEQ0.out, walk_nil HNW.out]; rfl)
          go_wp2_with fail
          have hg4 := HM.out.g4
          have hrow := HM.out.row
          have hbel := HM.out.bel
          have hn4 := row_not hrow (show w.heap.size + 1 < w.heap.size + 1 + 1 + 1 by omega)
          (try rw [Exit.noGoto_ret])
          have hre := ((((hg4.set_ 0 (.int .i64 0)).set_ 1 (.int .i64 0)).set_ 2 (.int .i64 0)).set_ 3 (.slice none 0 0))
          have hrw := ((((hrow.kept (row := some (w.heap.size + 1)) (grown_set _ (w.heap.size + 1) 0 (.int .i64 0)) (.inr hn4)).kept (row := some (w.heap.size + 1)) (grown_set _ (w.heap.size + 1) 1 (.int .i64 0)) (.inr hn4)).kept (row := some (w.heap.size + 1)) (grown_set _ (w.heap.size + 1) 2 (.int .i64 0)) (.inr hn4)).kept (row := some (w.heap.size + 1)) (grown_set _ (w.heap.size + 1) 3 (.slice none 0 0)) (.inr hn4))
          have hbl := ((((hbel.setCell (p := ⟨(w.heap.size + 1), 0, none⟩) (by simp) (.int .i64 0)).setCell (p := ⟨(w.heap.size + 1), 1, none⟩) (by simp) (.int .i64 0)).setCell (p := ⟨(w.heap.size + 1), 2, none⟩) (by simp) (.int .i64 0)).setCell (p := ⟨(w.heap.size + 1), 3, none⟩) (by simp) (.slice none 0 0))
          simp only [List.setIfInBounds_toArray, List.set_cons_zero, List.set_cons_succ] at hre
          generalize World.setCell _ _ _ = W9 at hre hrw hbl ⊢
          exact bodyPost_ret (results90 rfl rfl hre) rfl ⟨⟨0, 0, 0⟩, none, 0, 0, by rw [HEQ.out]; rfl, fun s' us h => (by rw [HEQ.out] at h; cases h), hbl⟩
        | cons i q' =>
          obtain ⟨ib, io, rfl, i0⟩ := (HI.out.ints.below HM.out.bel).2 0 i rfl
          simp only [Nat.add_zero] at i0
          have hc1 := HI.out.hc1
          have hc2 := HI.out.hc2
          have hd0 := HI.out.d0
          have hd1' := HI.out.d1
          rw [List.length_cons] at hc1 hd1'
          rw [List.length_cons]
          obtain ⟨nq, hnq⟩ : ∃ x, q'.length = x := ⟨_, rfl⟩
          rw [hnq] at hc1 hd1' ⊢
          have HNQ := Lib.hid hnq
          clear hnq
          have z1 : (1 : Int) ≤ ((nq + 1 : Nat) : Int) := by omega
          have z2 : ((nq + 1 : Nat) : Int) ≤ (c' : Int) := by omega
          have z3 : (((nq + 1 : Nat) : Int) == 0) = false := by simp; omega
          by_cases hneg : i < 0
          · have HEQ := Lib.hid (show walkS d t 0 0 p = none by rw [HEQ0.out, walk_neg HNW.out hneg]; rfl)
            go_wp2_with fail
            have hg4 := HM.out.g4
            have hrow := HM.out.row
            have hbel := HM.out.bel
            have hn4 := row_not hrow (show w.heap.size + 1 < w.heap.size + 1 + 1 + 1 by omega)
            (try rw [Exit.noGoto_ret])
            have hre := ((((hg4.set_ 0 (.int .i64 0)).set_ 1 (.int .i64 0)).set_ 2 (.int .i64 0)).set_ 3 (.slice none 0 0))
            have hrw := ((((hrow.kept (row := some (w.heap.size + 1)) (grown_set _ (w.heap.size + 1) 0 (.int .i64 0)) (.inr hn4)).kept (row := some (w.heap.size + 1)) (grown_set _ (w.heap.size + 1) 1 (.int .i64 0)) (.inr hn4)).kept (row := some (w.heap.size + 1)) (grown_set _ (w.heap.size + 1) 2 (.int .i64 0)) (.inr hn4)).kept (row := some (w.heap.size + 1)) (grown_set _ (w.heap.size + 1) 3 (.slice none 0 0)) (.inr hn4))
            have hbl := ((((hbel.setCell (p := ⟨(w.heap.size + 1), 0, none⟩) (by simp) (.int .i64 0)).setCell (p := ⟨(w.heap.size + 1), 1, none⟩) (by simp) (.int .i64 0)).setCell (p := ⟨(w.heap.size + 1), 2, none⟩) (by simp) (.int .i64 0)).setCell (p := ⟨(w.heap.size + 1), 3, none⟩) (by simp) (.slice none 0 0))
            simp only [List.setIfInBounds_toArray, List.set_cons_zero, List.set_cons_succ] at hre
            generalize World.setCell _ _ _ = W9 at hre hrw hbl ⊢
            exact bodyPost_ret (results90 rfl rfl hre) rfl ⟨⟨0, 0, 0⟩, none, 0, 0, by rw [HEQ.out]; rfl, fun s' us h => (by rw [HEQ.out] at h; cases h), hbl⟩
          · have hneg' : decide (i < 0) = false := decide_eq_false hneg
            have t5 := HM.out.g2.at_ (i := 5) rfl; have t6 := HM.out.g2.at_ (i := 6) rfl
            have HIQ := Lib.hid HI.out.ints
            go_upto_region 14 with (fail)
            clear i0
            go_cut [1] from 51 to 52 (fun s1 wx => (∃ (B2 : Option Addr) (k2 : Nat), s1 = .slice B2 nq k2 ∧ IntsAt w B2 nq q' ∧ nq ≤ k2 ∧ k2 ≤ 9223372036854775807) ∧ wx = w2)
            case first =>
              have hti := HIQ.out.tail
              rw [HNQ.out] at hti
              by_cases hc1' : c' = 1
              · subst hc1'
                obtain rfl : nq = 0 := by omega
                obtain rfl : q' = [] := List.length_eq_zero_iff.1 HNQ.out
                go_wp2_with fail
                go_meet
                case rel => exact ⟨⟨_, _, rfl, ⟨rfl, fun i v h => by simp at h⟩, Nat.le_refl _, by omega⟩, rfl⟩
              · go_wp2_with fail
                go_meet
                case rel => exact ⟨⟨_, _, rfl, hti, by omega, by omega⟩, rfl⟩
            case rest =>
            obtain ⟨⟨B2, k2, rfl, hti, hq1, hq2⟩, rfl⟩ := hcut
            have HTI := Lib.hid hti
            clear hti
            by_cases h3 : sh = 3
            · subst h3
              obtain ⟨x, bx, hof, hbare, hk0, n1, n2, px6, hbx, hbe, hle, okx⟩ := arr_parts HSH.out HH6.out HI.out.bx
              obtain ⟨n, hn⟩ : ∃ n, τ.n = n := ⟨_, rfl⟩
              rw [hn] at t2 n1 n2 hle hbe
              have HN := Lib.hid hn
              by_cases hin : n ≤ i
              · have HEQ := Lib.hid (show walkS d t 0 0 p = none by rw [HEQ0.out, walk_arr_no HSH.out (by omega) (by rw [hn]; exact hin)]; rfl)
                have hin' : decide (n ≤ i) = true := decide_eq_true hin
                clear hn hof hbe
                go_wp2_with fail
                have hg4 := HM.out.g4
                have hrow := HM.out.row
                have hbel := HM.out.bel
                have hn4 := row_not hrow (show w.heap.size + 1 < w.heap.size + 1 + 1 + 1 by omega)
                (try rw [Exit.noGoto_ret])
                have hre := ((((hg4.set_ 0 (.int .i64 0)).set_ 1 (.int .i64 0)).set_ 2 (.int .i64 0)).set_ 3 (.slice none 0 0))
                have hrw := ((((hrow.kept (row := some (w.heap.size + 1)) (grown_set _ (w.heap.size + 1) 0 (.int .i64 0)) (.inr hn4)).kept (row := some (w.heap.size + 1)) (grown_set _ (w.heap.size + 1) 1 (.int .i64 0)) (.inr hn4)).kept (row := some (w.heap.size + 1)) (grown_set _ (w.heap.size + 1) 2 (.int .i64 0)) (.inr hn4)).kept (row := some (w.heap.size + 1)) (grown_set _ (w.heap.size + 1) 3 (.slice none 0 0)) (.inr hn4))
                have hbl := ((((hbel.setCell (p := ⟨(w.heap.size + 1), 0, none⟩) (by simp) (.int .i64 0)).setCell (p := ⟨(w.heap.size + 1), 1, none⟩) (by simp) (.int .i64 0)).setCell (p := ⟨(w.heap.size + 1), 2, none⟩) (by simp) (.int .i64 0)).setCell (p := ⟨(w.heap.size + 1), 3, none⟩) (by simp) (.slice none 0 0))
                simp only [List.setIfInBounds_toArray, List.set_cons_zero, List.set_cons_succ] at hre
                generalize World.setCell _ _ _ = W9 at hre hrw hbl ⊢
                exact bodyPost_ret (results90 rfl rfl hre) rfl ⟨⟨0, 0, 0⟩, none, 0, 0, by rw [HEQ.out]; rfl, fun s' us h => (by rw [HEQ.out] at h; cases h), hbl⟩
              · have hin' : decide (n ≤ i) = false := decide_eq_false hin
                have hszn : sz = bx.size * n := by have := HSZ.out; rw [hbe] at this; exact this.symm
                obtain ⟨z8, hz8⟩ : ∃ x, 8 * bx.size = x := ⟨_, rfl⟩
                have hq : 8 * sz / n = z8 := by rw [hszn, ← Int.mul_assoc, hz8]; exact Int.mul_ediv_cancel _ (by omega)
                have ox := okx.1
                have hm1 : 0 ≤ z8 * i := Int.mul_nonneg (by omega) (by omega)
                have hm2 : z8 * i ≤ z8 * (n - 1) := Int.mul_le_mul_of_nonneg_left (by omega) (by omega)
                have hm3 : z8 * (n - 1) = 8 * sz - z8 := by rw [Int.mul_sub, Int.mul_one, ← hz8, hszn, Int.mul_assoc]
                obtain ⟨zi, hzi⟩ : ∃ x, z8 * i = x := ⟨_, rfl⟩
                rw [hzi] at hm1 hm2
                have hzb : zi + z8 ≤ 8 * sz := by omega
                have ofl : τ.of.length = 1 := by rw [hof]; rfl
                rw [ofl] at t3
                obtain ⟨xb, xo, s0, s1, s2, s3, s4, s5, s6, rfl, hxt, p0, p1, p2, p3, p4, p5, p6⟩ := HOF.out.at_ (i := 0) (x := x) (by rw [hof]; rfl)
                simp only [Nat.zero_mul, Nat.add_zero] at p0 p1 p2 p3 p4 p5 p6
                replace p0 := bel_cell HM.out.bel p0; replace p1 := bel_cell HM.out.bel p1; replace p2 := bel_cell HM.out.bel p2; replace p3 := bel_cell HM.out.bel p3; replace p4 := bel_cell HM.out.bel p4; replace p5 := bel_cell HM.out.bel p5; replace p6 := bel_cell HM.out.bel p6
                obtain ⟨xn, C1, C2, cn1, cn2, cc1, cc2, xpk, xal, hcs⟩ := hxt.form
                simp only [List.cons.injEq, and_true] at hcs
                obtain ⟨rfl, rfl, rfl, rfl, rfl, rfl, rfl⟩ := hcs
                have HXT := Lib.hid hxt
                have f20 := HM.out.g2.frozen 0; have f21 := HM.out.g2.frozen 1; have f22 := HM.out.g2.frozen 2; have f23 := HM.out.g2.frozen 3; have f24 := HM.out.g2.frozen 4; have f25 := HM.out.g2.frozen 5; have f26 := HM.out.g2.frozen 6
                have HF := Lib.hid hof
                have HP6 := Lib.hid px6
                have HBX := Lib.hid hbx
                have HPL := Lib.hid (plain_arr HI.out.pl HSH.out hof)
                clear hxt hof hbe px6 hbx hn hm3 hszn
                go_wp2_with fail
                go_roundw
                case rel =>
                  refine ⟨m, x, bx, kk - 1, _, _, _, _, _, _, _, q', B2, k2, fr + zi, dp + 1, U, .slice SB U.length Sc, by rw [HNQ.out], rfl, by go_num, HPL.out, by have := HI.out.k6; omega, HBX.out, HXT.out, HM.out.next _ _ _ _ _ _ _, by rw [HNQ.out]; exact HTI.out, by rw [HNQ.out]; exact hq1, hq2, ?_, by omega, by omega, by omega, by rw [HNQ.out]; omega, by have := HI.out.u2; omega⟩
                  rw [HEQ0.out, walk_arr HSH.out (by omega) (by rw [HN.out]; omega) HF.out, show bsz m x = bx.size by unfold bsz; rw [(err_of HP6.out (by omega) HBX.out).2.1], hz8, hzi]
                case measure => have := HNQ.out; simp [slLen]; omega
            · have h45 : sh = 4 ∨ sh = 5 := by omega
              have H45 := Lib.hid (show τ.sh = 4 ∨ τ.sh = 5 by rw [HSH.out]; exact h45)
              have hd3 : (sh == 3) = false := by simpa using h3
              have LR := liesR HE.out.1 H45.out
              have hmL : memL (m + 1) τ = bb.l := by unfold memL; rw [if_pos ⟨HE.out.1, H45.out⟩, HE.out.2.1]
              rw [hmL, HE.out.2.2.1, HSZ.out] at LR
              have hlen := LR.len
              have HALL := Lib.hid LR.all
              have hbl : (boxD (m + 1) τ).l = bb.l := by rw [HE.out.2.1]
              have HBL := Lib.hid hbl
              obtain ⟨LL, hLL⟩ : ∃ L, bb.l = L := ⟨_, rfl⟩
              rw [hLL] at hlen HALL HBL
              have HML := Lib.hid (hmL.trans hLL)
              obtain ⟨nf, hnf⟩ : ∃ x, τ.fs.length = x := ⟨_, rfl⟩
              rw [hnf] at t4 hlen
              have HNF := Lib.hid hnf
              clear hmL hbl LR hLL hnf
              by_cases hfar : (nf : Int) ≤ i
              · have HEQ := Lib.hid (show walkS d t 0 0 p = none by rw [HEQ0.out, walk_cmp_far H45.out (by omega) (by rw [HNF.out]; omega)]; rfl)
                have hin' : decide ((nf : Int) ≤ i) = true := decide_eq_true hfar
                go_wp2_with fail
                have hg4 := HM.out.g4
                have hrow := HM.out.row
                have hbel := HM.out.bel
                have hn4 := row_not hrow (show w.heap.size + 1 < w.heap.size + 1 + 1 + 1 by omega)
                (try rw [Exit.noGoto_ret])
                have hre := ((((hg4.set_ 0 (.int .i64 0)).set_ 1 (.int .i64 0)).set_ 2 (.int .i64 0)).set_ 3 (.slice none 0 0))
                have hrw := ((((hrow.kept (row := some (w.heap.size + 1)) (grown_set _ (w.heap.size + 1) 0 (.int .i64 0)) (.inr hn4)).kept (row := some (w.heap.size + 1)) (grown_set _ (w.heap.size + 1) 1 (.int .i64 0)) (.inr hn4)).kept (row := some (w.heap.size + 1)) (grown_set _ (w.heap.size + 1) 2 (.int .i64 0)) (.inr hn4)).kept (row := some (w.heap.size + 1)) (grown_set _ (w.heap.size + 1) 3 (.slice none 0 0)) (.inr hn4))
                have hbl := ((((hbel.setCell (p := ⟨(w.heap.size + 1), 0, none⟩) (by simp) (.int .i64 0)).setCell (p := ⟨(w.heap.size + 1), 1, none⟩) (by simp) (.int .i64 0)).setCell (p := ⟨(w.heap.size + 1), 2, none⟩) (by simp) (.int .i64 0)).setCell (p := ⟨(w.heap.size + 1), 3, none⟩) (by simp) (.slice none 0 0))
                simp only [List.setIfInBounds_toArray, List.set_cons_zero, List.set_cons_succ] at hre
                generalize World.setCell _ _ _ = W9 at hre hrw hbl ⊢
                exact bodyPost_ret (results90 rfl rfl hre) rfl ⟨⟨0, 0, 0⟩, none, 0, 0, by rw [HEQ.out]; rfl, fun s' us h => (by rw [HEQ.out] at h; cases h), hbl⟩
              · have hin' : decide ((nf : Int) ≤ i) = false := decide_eq_false hfar
                obtain ⟨j, rfl⟩ : ∃ j : Nat, i = (j : Int) := ⟨i.toNat, by omega⟩
                have kj1 : (0 : Int) ≤ (j : Int) := Int.natCast_nonneg _
                have kj2 : (j : Int) < (nf : Int) := by omega
                obtain ⟨f, hf⟩ : ∃ f, τ.fs[j]? = some f := ⟨_, List.getElem?_eq_getElem (by have := HNF.out; omega)⟩
                obtain ⟨x, hx⟩ : ∃ x, LL[j]? = some x := ⟨_, List.getElem?_eq_getElem (by omega)⟩
                obtain ⟨xb0, xb1, xb2, -, -, pl5, -, bq, hlies⟩ := HALL.out j f x hf hx
                have HWC := Lib.hid (walk_cmp (fr := fr) (dp := dp) (i := (j : Int)) (q := q') H45.out kj1 (by rw [Int.toNat_natCast]; exact hf) (by rw [HBL.out, Int.toNat_natCast]; exact hx))
                obtain ⟨xb, xo, fn, C1, C2, cn1, cn2, cc1, cc2, fpk, fal, rfl, -, -, hfty, p0, p1, p2, p3, p4, p5, p6, p7, p8⟩ := HFS.out.at_ hf
                have HP8 := Lib.hid p8
                replace p8 := bel_cell HM.out.bel p8
                have HLI := Lib.hid hlies
                have HPM := Lib.hid (plain_fld HI.out.pl H45.out (List.mem_of_getElem? hf))
                have HFT := Lib.hid hfty
                have HX := Lib.hid hx
                obtain ⟨fb, hfb⟩ : ∃ x, f.bits = x := ⟨_, rfl⟩
                rw [hfb] at p8 HWC
                have HFB := Lib.hid hfb
                clear hlies hfty hx hf hfb
                by_cases hb0 : fb = 0
                · subst hb0
                  have HEQ := Lib.hid (show walkS d t 0 0 p = none by rw [HEQ0.out, HWC.out, if_pos rfl]; rfl)
                  go_wp2_with fail
                  have hg4 := HM.out.g4
                  have hrow := HM.out.row
                  have hbel := HM.out.bel
                  have hn4 := row_not hrow (show w.heap.size + 1 < w.heap.size + 1 + 1 + 1 by omega)
                  (try rw [Exit.noGoto_ret])
                  have hre := ((((hg4.set_ 0 (.int .i64 0)).set_ 1 (.int .i64 0)).set_ 2 (.int .i64 0)).set_ 3 (.slice none 0 0))
                  have hrw := ((((hrow.kept (row := some (w.heap.size + 1)) (grown_set _ (w.heap.size + 1) 0 (.int .i64 0)) (.inr hn4)).kept (row := some (w.heap.size + 1)) (grown_set _ (w.heap.size + 1) 1 (.int .i64 0)) (.inr hn4)).kept (row := some (w.heap.size + 1)) (grown_set _ (w.heap.size + 1) 2 (.int .i64 0)) (.inr hn4)).kept (row := some (w.heap.size + 1)) (grown_set _ (w.heap.size + 1) 3 (.slice none 0 0)) (.inr hn4))
                  have hbl := ((((hbel.setCell (p := ⟨(w.heap.size + 1), 0, none⟩) (by simp) (.int .i64 0)).setCell (p := ⟨(w.heap.size + 1), 1, none⟩) (by simp) (.int .i64 0)).setCell (p := ⟨(w.heap.size + 1), 2, none⟩) (by simp) (.int .i64 0)).setCell (p := ⟨(w.heap.size + 1), 3, none⟩) (by simp) (.slice none 0 0))
                  simp only [List.setIfInBounds_toArray, List.set_cons_zero, List.set_cons_succ] at hre
                  generalize World.setCell _ _ _ = W9 at hre hrw hbl ⊢
                  exact bodyPost_ret (results90 rfl rfl hre) rfl ⟨⟨0, 0, 0⟩, none, 0, 0, by rw [HEQ.out]; rfl, fun s' us h => (by rw [HEQ.out] at h; cases h), hbl⟩
                · have hb0' : (fb == 0) = false := by simpa using hb0
                  have u63 := HM.out.g6.at_ (i := 3) rfl
                  have f63 := HM.out.g6.frozen 3
                  obtain ⟨own, hown⟩ : ∃ o : List Stp, (if τ.sh = 5 then [(⟨fr / 8, bsz (m + 1) τ, dp, (j : Int)⟩ : Stp)] else []) = o := ⟨_, rfl⟩
                  rw [hown] at HWC
                  have HOWN := Lib.hid (show own = if sh = 5 then [⟨fr / 8, sz, dp, (j : Int)⟩] else [] by rw [← hown, HSH.out, HBS.out])
                  clear hown
                  have hkk := plain_low1 HI.out.pl
                  have hu2 := HI.out.u2
                  go_upto_if 93 with (fail)
                  go_cut [] from 94 to 105 (fun wx => ∃ (SB2 : Option Addr) (Sc2 : Nat), FolM w (.int .i64 τ.sh) (.int .i64 τ.k) (.int .i64 τ.n) (.slice A1 τ.of.length c1) (.slice (some ⟨xb, xo, none⟩) τ.fs.length c2) (.bool τ.pk) (.int .i64 τ.al) (U ++ own) (.slice SB2 (U ++ own).length Sc2) wx)
                  case first =>
                    rcases h45 with rfl | rfl
                    · have ho : own = [] := by rw [HOWN.out]; rfl
                      go_wp2_with fail
                      go_meet
                      case rel => rw [ho, List.append_nil]; exact ⟨SB, Sc, HM.out⟩
                    · have ho : own = [⟨fr / 8, sz, dp, (j : Int)⟩] := by rw [HOWN.out]; rfl
                      obtain ⟨i0', hi0, hz0', hz1', hz2'⟩ := info_parts info125
                      have hrow := HM.out.row
                      have hwl := HM.out.sz
                      obtain ⟨f8, hf8⟩ : ∃ x, fr / 8 = x := ⟨_, rfl⟩
                      go_wp2_with (at_builtin; refine wpList_append_own _ rfl (.tmp 95) (.tmp 103) 117 rfl (w.heap.size + 1 + 1 + 1) 125 i0' _ 4 32 Try.underlying117 hi0 hz0' hz1' hz2' rfl (by decide) _ U.length (stpC U) rfl (hrow.alloc _) ⟨wc.heap.size, 0, none⟩ 1 1 [.int .i64 f8, .int .i64 sz, .int .i64 dp, .int .i64 j] rfl rfl (new_cells _ _ _) (by simp [Value.oneCell']) (by unfold maxLen; omega) (by omega) (by rw [World.size_alloc]; omega) ?_; intro v' w7 hown' hgrow _; obtain ⟨g', cap', rfl⟩ := ownsRow_succ hown'; obtain ⟨a6, hn⟩ := HM.out.app (s := ⟨f8, sz, dp, (j : Int)⟩) hown' hgrow; have a63 := a6.at_ (i := 3) rfl; have b63 := a6.frozen 3; have HN := Lib.hid hn; clear hown' hgrow hn a6)
                      go_meet
                      case rel => rw [ho, hf8]; exact ⟨some ⟨g', 0, none⟩, cap', by rw [List.length_append]; exact HN.out⟩
                  case rest =>
                    obtain ⟨SB2, Sc2, hM2⟩ := hcut
                    obtain ⟨UO, hUO⟩ : ∃ L, U ++ own = L := ⟨_, rfl⟩
                    rw [hUO] at hM2
                    have HUO := Lib.hid hUO
                    clear hUO
                    have HM2 := Lib.hid hM2
                    clear hM2 t0 t1 t2 t3 t4 t5 t6 f40 f41 f42 f43 u40 u41 u42 u43 u63 f63 p8
                    have hmE : memE (m + 1) τ = 0 := by unfold memE; rw [if_pos HE.out.1, if_pos (show tsh (m + 1) τ = 4 ∨ tsh (m + 1) τ = 5 from H45.out)]
                    have hmc := members_c (HI.out.ty.below HM2.out.bel)
                    rw [hmE, HML.out, HNF.out, HSH.out] at hmc
                    replace hmc := Lib.hid hmc
                    have t0 := HM2.out.g2.at_ (i := 0) rfl; have t1 := HM2.out.g2.at_ (i := 1) rfl; have t2 := HM2.out.g2.at_ (i := 2) rfl; have t3 := HM2.out.g2.at_ (i := 3) rfl; have t4 := HM2.out.g2.at_ (i := 4) rfl; have t5 := HM2.out.g2.at_ (i := 5) rfl; have t6 := HM2.out.g2.at_ (i := 6) rfl
                    rw [HNF.out] at t4
                    go_wp2_with fail
                    refine hmc.out.mono ?_
                    rintro e w3 ⟨MA, mn', mc, rfl, ⟨hms, -⟩, hb3⟩
                    obtain rfl : mn' = LL.length := hms.1
                    obtain ⟨mb, mo, rfl, m0, m1, m2⟩ := hms.at_ HX.out
                    rw [hlen]
                    have HM3 := Lib.hid (HM2.out.below hb3)
                    clear t0 t1 t2 t3 t4 t5 t6 hms hb3 hmc hmE
                    have t4 := HM3.out.g2.at_ (i := 4) rfl
                    rw [HNF.out] at t4
                    have p8 := bel_cell HM3.out.bel HP8.out
                    rw [HFB.out] at p8
                    obtain ⟨xbt, xbs, xk⟩ := x
                    simp only at m0 m1 m2 xb0 xb1 xb2 HWC
                    obtain ⟨f2, hf2⟩ : ∃ y, fr + xbt = y := ⟨_, rfl⟩
                    have y4 : 0 ≤ f2 ∧ f2 + xbs ≤ fr + 8 * sz := by omega
                    by_cases hpos : 0 < fb
                    · have hpos' : decide (0 < fb) = true := decide_eq_true hpos
                      have HEQ : ((q' = [] ∧ walkS d t 0 0 p = some (⟨f2, xbs, xk⟩, UO)) ∨ (q' ≠ [] ∧ walkS d t 0 0 p = none)) := by
                        rw [HEQ0.out, HWC.out, if_neg hb0, if_pos hpos, hf2]
                        cases q' with
                        | nil => exact .inl ⟨rfl, by rw [← HUO.out]; rfl⟩
                        | cons a l => exact .inr ⟨by simp, rfl⟩
                      have HQ := Lib.hid HEQ
                      clear HEQ
                      go_wp2_with fail
                      refine region_tail (C := fun w' => ∃ n, w' = w3.drewN n) 13 (by kernel_rfl) (by kernel_rfl) ⟨1, rfl⟩ ?_
                      simp only [List.take_succ_cons, List.take_zero, List.drop_succ_cons, List.drop_zero]
                      repeat (go_big_quiet_step (fail))
                      refine wpQuiet_nil ?_
                      rintro _ ⟨nd, rfl⟩
                      have hM4 := HM3.out.below (bel_drewN (Below.refl _ _) nd)
                      generalize World.drewN w3 nd = w4 at hM4 ⊢
                      have HM4 := Lib.hid hM4
                      clear hM4 m0 m1 m2 p8 t4
                      have f60 := HM4.out.g6.frozen 0; have f61 := HM4.out.g6.frozen 1; have f62 := HM4.out.g6.frozen 2
                      have u60 := HM4.out.g6.at_ (i := 0) rfl; have u61 := HM4.out.g6.at_ (i := 1) rfl; have u62 := HM4.out.g6.at_ (i := 2) rfl
                      go_upto_region 31 with (fail)
                      have hE := HM4.out.spot f2 xbs xk
                      generalize World.setCell _ _ _ = W3 at hE ⊢
                      clear f60 f61 f62 u60 u61 u62
                      have f40 := hE.g4.frozen 0; have f41 := hE.g4.frozen 1; have f42 := hE.g4.frozen 2; have f43 := hE.g4.frozen 3
                      have u40 := hE.g4.at_ (i := 0) rfl; have u41 := hE.g4.at_ (i := 1) rfl; have u42 := hE.g4.at_ (i := 2) rfl; have u43 := hE.g4.at_ (i := 3) rfl
                      have n60 := hE.g6.at_ (i := 0) rfl; have n61 := hE.g6.at_ (i := 1) rfl; have n62 := hE.g6.at_ (i := 2) rfl; have n63 := hE.g6.at_ (i := 3) rfl
                      have HE3 := Lib.hid hE
                      clear hE
                      obtain ⟨ok, hok⟩ : ∃ x, ((nq : Int) == 0) = x := ⟨_, rfl⟩
                      go_wp2_with fail
                      have hg4 := HE3.out.g4
                      have hrow := HE3.out.row
                      have hbel := HE3.out.bel
                      have hn4 := row_not hrow (show w.heap.size + 1 < w.heap.size + 1 + 1 + 1 by omega)
                      have hre := ((((hg4.set_ 0 (.int .i64 f2)).set_ 1 (.int .i64 xbs)).set_ 2 (.int .i64 xk)).set_ 3 (.slice SB2 UO.length Sc2))
                      have hrw := ((((hrow.kept (row := some (w.heap.size + 1)) (grown_set _ (w.heap.size + 1) 0 (.int .i64 f2)) (.inr hn4)).kept (row := some (w.heap.size + 1)) (grown_set _ (w.heap.size + 1) 1 (.int .i64 xbs)) (.inr hn4)).kept (row := some (w.heap.size + 1)) (grown_set _ (w.heap.size + 1) 2 (.int .i64 xk)) (.inr hn4)).kept (row := some (w.heap.size + 1)) (grown_set _ (w.heap.size + 1) 3 (.slice SB2 UO.length Sc2)) (.inr hn4))
                      have hbl := ((((hbel.setCell (p := ⟨(w.heap.size + 1), 0, none⟩) (by simp) (.int .i64 f2)).setCell (p := ⟨(w.heap.size + 1), 1, none⟩) (by simp) (.int .i64 xbs)).setCell (p := ⟨(w.heap.size + 1), 2, none⟩) (by simp) (.int .i64 xk)).setCell (p := ⟨(w.heap.size + 1), 3, none⟩) (by simp) (.slice SB2 UO.length Sc2))
                      simp only [List.setIfInBounds_toArray, List.set_cons_zero, List.set_cons_succ] at hre
                      generalize World.setCell _ _ _ = W9 at hre hrw hbl ⊢
                      rcases HQ.out with ⟨hq0, hq⟩ | ⟨hq0, hq⟩
                      · have hokt : ok = true := by rw [← hok, ← HNQ.out, hq0]; rfl
                        rw [hokt]
                        exact bodyPost_ret (results90 rfl rfl hre) rfl ⟨⟨f2, xbs, xk⟩, SB2, UO.length, Sc2, by rw [hq]; rfl, fun s' us h => (by rw [hq] at h; cases h; exact ⟨rfl, stps_of_row hrw rfl, row_fresh hrw (by omega)⟩), hbl⟩
                      · have hokt : ok = false := by rw [← hok, ← HNQ.out]; cases q' with | nil => exact absurd rfl hq0 | cons a l => simp; omega
                        rw [hokt]
                        exact bodyPost_ret (results90 rfl rfl hre) rfl ⟨⟨f2, xbs, xk⟩, SB2, UO.length, Sc2, by rw [hq]; rfl, fun s' us h => (by rw [hq] at h; cases h), hbl⟩
                    · have hpos' : decide (0 < fb) = false := decide_eq_false hpos
                      have p1' := bel_cell HM3.out.bel p1; have p2' : w3.cell? ⟨xb, xo + j * 9 + 1 + 1, none⟩ = _ := bel_cell HM3.out.bel p2; have p3' : w3.cell? ⟨xb, xo + j * 9 + 1 + 2, none⟩ = _ := bel_cell HM3.out.bel p3; have p4' : w3.cell? ⟨xb, xo + j * 9 + 1 + 3, none⟩ = _ := bel_cell HM3.out.bel p4; have p5' : w3.cell? ⟨xb, xo + j * 9 + 1 + 4, none⟩ = _ := bel_cell HM3.out.bel p5; have p6' : w3.cell? ⟨xb, xo + j * 9 + 1 + 5, none⟩ = _ := bel_cell HM3.out.bel p6; have p7' : w3.cell? ⟨xb, xo + j * 9 + 1 + 6, none⟩ = _ := bel_cell HM3.out.bel p7
                      have t0 := HM3.out.g2.at_ (i := 0) rfl; have t1 := HM3.out.g2.at_ (i := 1) rfl; have t2 := HM3.out.g2.at_ (i := 2) rfl; have t3 := HM3.out.g2.at_ (i := 3) rfl; have t5 := HM3.out.g2.at_ (i := 5) rfl; have t6 := HM3.out.g2.at_ (i := 6) rfl
                      have f20 := HM3.out.g2.frozen 0; have f21 := HM3.out.g2.frozen 1; have f22 := HM3.out.g2.frozen 2; have f23 := HM3.out.g2.frozen 3; have f24 := HM3.out.g2.frozen 4; have f25 := HM3.out.g2.frozen 5; have f26 := HM3.out.g2.frozen 6
                      have hbs2 : xbs = 8 * bq.size := by have h := HLI.out.bits; rw [if_pos (by have := HFB.out; omega)] at h; exact h
                      have HBQ := Lib.hid hbs2
                      have HLB := Lib.hid HLI.out.bx
                      have hol : UO.length ≤ U.length + 1 := by rw [← HUO.out, List.length_append, HOWN.out]; split <;> simp
                      clear hbs2
                      go_wp2_with fail
                      go_roundw
                      case rel =>
                        refine ⟨m, f.t, bq, kk - 1, _, _, _, _, _, _, _, q', B2, k2, f2, dp + 1, UO, .slice SB2 UO.length Sc2, by rw [HNQ.out], rfl, by go_num, HPM.out, by have := HI.out.k6; omega, HLB.out, HFT.out, HM3.out.next _ _ _ _ _ _ _, by rw [HNQ.out]; exact HTI.out, by rw [HNQ.out]; exact hq1, hq2, ?_, by omega, by have := HBQ.out; omega, by omega, by rw [HNQ.out]; omega, by omega⟩
                        rw [HEQ0.out, HWC.out, if_neg hb0, if_neg (show ¬ 0 < fb by omega), hf2, ← HUO.out]
                        cases walkS m f.t f2 (dp + 1) q' <;> simp
                      case measure => have := HNQ.out; simp [slLen]; omega
end Go.Proofs.Ytcggghamnmflcaa
namespace Go.Proofs.Ytcggghamnmflcaa
open Go Go.RowKit Go.Shelf
attribute [local go_sem] wide_fn Oper.semAt_some
def bitEnc (bt : Nat) (i : Nat) : Array Value := #[.int .i64 (((bt + i : Nat) : Int) / 8), .int .u64 (((bt + i : Nat) : Int) % 8)]
def bitEncF (bt bs : Nat) (i : Fin bs) : Array Value := bitEnc bt i.1
def finK (bs k : Nat) : List (Fin bs) := (List.finRange bs).take k
theorem finK_len {bs k : Nat} (h : k ≤ bs) : (finK bs k).length = k := by unfold finK; simp; omega
theorem finK_snoc {bs k : Nat} (h : k < bs) : finK bs (k + 1) = finK bs k ++ [⟨k, h⟩] := by
  unfold finK
  rw [List.take_add_one, List.getElem?_eq_getElem (by simpa using h)]
  simp
theorem finK_all (bs : Nat) : finK bs bs = List.finRange bs := by unfold finK; exact List.take_of_length_le (by simp)
def Kp1 (a : Nat) (W W' : World) : Prop := W'.heap[a]? = W.heap[a]?
set_option maxRecDepth 100000 in
set_option maxHeartbeats 2000000 in
theorem bits1_in (n : Nat) (hn : 1 ≤ n) (l₀ : Nat) (Gb bt bs : Nat) (hb : bt + bs ≤ 1000000) (J Jx : List (Fin bs) → World → Prop) (W : World)
    (hG0 : W.cell? ⟨Gb, 0, none⟩ = some (.int .i64 bt)) (hG1 : W.cell? ⟨Gb, 1, none⟩ = some (.int .i64 bs))
    (hY : ∀ pre x W1, J pre W1 → pre.length < bs → YieldAt Fence.wide (n - 1) Try.prog l₀ (bitEncF bt bs x) W1 fun e W' =>
      (e = .returned (.bool true) ∧ J (pre ++ [x]) W' ∧ Kp1 Gb W1 W') ∨ (e = .returned (.bool false) ∧ Jx (pre ++ [x]) W'))
    (h0 : J [] W) :
    CallsIn Fence.wide n Try.prog 126 #[.func (.yield l₀) #[] #[], .pointer (some ⟨Gb, 0, none⟩)] W fun e W' => (∃ v, e = .returned v) ∧
      ((∃ xs, xs = List.finRange bs ∧ J xs W') ∨ (∃ pre, (∃ k, k ≤ bs ∧ pre = finK bs k) ∧ Jx pre W')) := by
  have HY := Lib.hid hY
  clear hY
  refine callsIn_of_wp Try.func126 rfl trivial ?_ rfl
  simp only [Try.ntmps126, List.size_toArray, List.length_cons, List.length_nil, Nat.reduceAdd, Nat.reduceSub, Array.replicate_succ, Array.replicate_zero, List.push_toArray, List.append_toArray, List.nil_append, List.cons_append]
  gi_wp2_with fail
  gi_loopw [3] (fun s3 wr => ∃ (k : Nat), s3 = .int .i64 ((bt + k : Nat) : Int) ∧ k ≤ bs ∧ J (finK bs k) wr ∧ wr.cell? ⟨Gb, 0, none⟩ = some (.int .i64 bt) ∧ wr.cell? ⟨Gb, 1, none⟩ = some (.int .i64 bs))
    (fun i _ => bt + bs - (intOf i).toNat)
  case atStart => exact ⟨0, rfl, Nat.zero_le _, by simpa [finK] using h0, hG0, hG1⟩
  case round =>
    clear hG0 hG1
    obtain ⟨k, rfl, hk, hJ, hG0, hG1⟩ := hrel
    obtain ⟨at_, hat⟩ : ∃ a : Nat, bt + k = a := ⟨_, rfl⟩
    rw [hat]
    have HAT := Lib.hid hat
    by_cases hlt : k < bs
    · have hlt' : at_ < bt + bs := by omega
      obtain ⟨fn, tmps, assign, body, hy, hR⟩ := HY.out (finK bs k) ⟨k, hlt⟩ _ hJ (by rw [finK_len hk]; exact hlt)
      dsimp only [bitEncF, bitEnc] at hy
      rw [hat] at hy
      have HR := Lib.hid hR
      have HG0 := Lib.hid hG0
      have HG1 := Lib.hid hG1
      clear hR hat
      gi_wp2_with fail
      refine HR.out.mono ?_
      rintro e W3 (⟨rfl, hJ3, hk3⟩ | ⟨rfl, hJx3⟩)
      · clear hy HR
        gi_wp2_with fail
        go_roundw
        case rel => exact ⟨k + 1, by have := HAT.out; go_num, by omega, by rw [finK_snoc hlt]; exact hJ3, (World.cell?_of_block (show W3.heap[Gb]? = wr.heap[Gb]? from hk3)).trans HG0.out, (World.cell?_of_block (show W3.heap[Gb]? = wr.heap[Gb]? from hk3)).trans HG1.out⟩
        case measure => have := HAT.out; simp [intOf]; omega
      · clear hy HR
        gi_wp2_with fail
        refine bodyPost_ret (results_none rfl _ _ _) rfl ?_
        exact ⟨⟨_, rfl⟩, .inr ⟨_, ⟨k + 1, hlt, (finK_snoc hlt).symm⟩, hJx3⟩⟩
    · have hge : k = bs := by omega
      subst hge
      clear hat
      have hat2 := HAT.out
      subst hat2
      gi_wp2_with fail
      go_end0
      exact ⟨⟨_, rfl⟩, .inl (by rw [← finK_all]; exact hJ)⟩
theorem bits_stops (n : Nat) (hn : 1 ≤ n) (Gb bt bs : Nat) (hb : bt + bs ≤ 1000000) (W0 : World)
    (hG0 : W0.cell? ⟨Gb, 0, none⟩ = some (.int .i64 bt)) (hG1 : W0.cell? ⟨Gb, 1, none⟩ = some (.int .i64 bs)) :
    SeqStopsK Fence.wide n Try.prog 126 #[.pointer (some ⟨Gb, 0, none⟩)] (bitEncF bt bs) (Kp1 Gb) (fun xs => xs = List.finRange bs) (fun pre => ∃ k, k ≤ bs ∧ pre = finK bs k) bs W0 :=
  fun l₀ J Jx W hW _ _ hY h0 => bits1_in n hn l₀ Gb bt bs hb J Jx W (bel_cell hW hG0) (bel_cell hW hG1) hY h0
theorem Kp1_t {a : Nat} {A B C : World} (h : Kp1 a A B) (k : Kp1 a B C) : Kp1 a A C := k.trans h
theorem bits_c (a b c : Int) (w : World) : Calls Try.prog 114 #[.agg #[.int .i64 a, .int .i64 b, .int .i64 c]] w fun e w' => e = .returned (.func (.func 126) #[] #[.pointer (some ⟨w.heap.size, 0, none⟩)]) ∧ w.alloc (.cells #[.int .i64 a, .int .i64 b, .int .i64 c] 48) = w' := by
  go_enter Try.func114, Try.ntmps114
  go_wp2
  go_ret
  exact ⟨rfl, rfl⟩
end Go.Proofs.Ytcggghamnmflcaa
namespace Go.Proofs.Ytcggghamnmflcaa
open Go Go.RowKit Go.Shelf
attribute [local go_sem] wide_fn Oper.semAt_some
/-- A byte with its bit n made q. -/
def sb (x n q : Nat) : Nat := x - (x / 2 ^ n % 2) * 2 ^ n + q * 2 ^ n
def wr1 (l : List Nat) (a q : Nat) : List Nat := l.set (a / 8) (sb (l[a / 8]?.getD 0) (a % 8) q)
/-- The bits written, one behind the other. -/
def wrQ (l : List Nat) (bt u : Nat) (pre : List Nat) : List Nat × Nat := pre.foldl (fun s x => (wr1 s.1 (bt + x) (u / 2 ^ s.2 % 2), s.2 + 1)) (l, 0)
theorem wrQ_snoc (l : List Nat) (bt u : Nat) (pre : List Nat) (x : Nat) : wrQ l bt u (pre ++ [x]) = (wr1 (wrQ l bt u pre).1 (bt + x) (u / 2 ^ (wrQ l bt u pre).2 % 2), (wrQ l bt u pre).2 + 1) := by
  unfold wrQ
  rw [List.foldl_append]
  rfl
theorem wrQ_2 (l : List Nat) (bt u : Nat) : ∀ (pre : List Nat) (s : List Nat × Nat), (pre.foldl (fun s x => (wr1 s.1 (bt + x) (u / 2 ^ s.2 % 2), s.2 + 1)) s).2 = s.2 + pre.length ∧ (pre.foldl (fun s x => (wr1 s.1 (bt + x) (u / 2 ^ s.2 % 2), s.2 + 1)) s).1.length = s.1.length
  | [], s => ⟨rfl, rfl⟩
  | x :: pre, s => by
    rw [List.foldl_cons]
    obtain ⟨a, b⟩ := wrQ_2 l bt u pre (wr1 s.1 (bt + x) (u / 2 ^ s.2 % 2), s.2 + 1)
    rw [a, b]
    constructor
    · simp; omega
    · unfold wr1; simp
theorem wrQ_n (l : List Nat) (bt u : Nat) (pre : List Nat) : (wrQ l bt u pre).2 = pre.length := by
  have := (wrQ_2 l bt u pre (l, 0)).1
  unfold wrQ
  omega
theorem wrQ_len (l : List Nat) (bt u : Nat) (pre : List Nat) : (wrQ l bt u pre).1.length = l.length := (wrQ_2 l bt u pre (l, 0)).2
theorem sb_lt {x n q : Nat} (hx : x < 256) (hn : n < 8) (hq : q < 2) : sb x n q < 256 := by
  revert x n q
  have h : ∀ x : Fin 256, ∀ n : Fin 8, ∀ q : Fin 2, sb x.1 n.1 q.1 < 256 := by decide +kernel
  intro x n q hx hn hq
  exact h ⟨x, hx⟩ ⟨n, hn⟩ ⟨q, hq⟩
theorem wr1_lt {l : List Nat} {a q : Nat} (hl : ∀ x ∈ l, x < 256) (ha : a < 8 * l.length) (hq : q < 2) : ∀ x ∈ wr1 l a q, x < 256 := fun x hx => by
  unfold wr1 at hx
  rcases List.mem_or_eq_of_mem_set hx with h | h
  · exact hl x h
  · rw [h, List.getElem?_eq_getElem (by omega)]
    exact sb_lt (hl _ (List.getElem_mem _)) (Nat.mod_lt _ (by omega)) hq
theorem wrQ_lt0 {bt u bs n : Nat} (hb : bt + bs ≤ 8 * n) : ∀ (pre : List Nat) (s : List Nat × Nat), (∀ x ∈ s.1, x < 256) → s.1.length = n → (∀ x ∈ pre, x < bs) → ∀ x ∈ (pre.foldl (fun s x => (wr1 s.1 (bt + x) (u / 2 ^ s.2 % 2), s.2 + 1)) s).1, x < 256
  | [], s, h, _, _ => h
  | y :: pre, s, h, hn, hp => by
    rw [List.foldl_cons]
    refine wrQ_lt0 hb pre _ (wr1_lt h (by have := hp y (by simp); omega) (Nat.mod_lt _ (by omega))) ?_ (fun x hx => hp x (by simp [hx]))
    unfold wr1
    simpa using hn
theorem wrQ_lt {l : List Nat} {bt u bs : Nat} (hl : ∀ x ∈ l, x < 256) (hb : bt + bs ≤ 8 * l.length) (pre : List Nat) (hp : ∀ x ∈ pre, x < bs) : ∀ x ∈ (wrQ l bt u pre).1, x < 256 := wrQ_lt0 hb pre (l, 0) hl rfl hp
/-- A value's bits, written into bytes. -/
def wrS (l : List Nat) (bt u bs : Nat) : List Nat := (wrQ l bt u (List.range bs)).1
def byC (l : List Nat) : List Value := l.map fun (x : Nat) => Value.int .u8 (x : Int)
/-- Bytes at a block's begin. -/
def ByA (W : World) (g : Nat) (l : List Nat) (rest : List Value) : Prop := ∃ lo hi : Nat, W.heap[g]? = some (.cells (byC l ++ rest).toArray 5 (lo, hi)) ∧ (hi ≤ lo ∨ l.length ≤ lo)
section
variable {W W' : World} {g : Nat} {l : List Nat} {rest : List Value}
theorem ByA.lt (h : ByA W g l rest) : g < W.heap.size := by
  obtain ⟨lo, hi, h1, _⟩ := h
  exact (Array.getElem?_eq_some_iff.1 h1).1
theorem ByA.of_bk (h : Bk W g 5 (byC l ++ rest).toArray) : ByA W g l rest := ⟨0, 0, h, .inl (Nat.le_refl _)⟩
theorem ByA.at_ (h : ByA W g l rest) {i : Nat} {v : Value} (hv : (byC l ++ rest).toArray[i]? = some v) : W.cell? ⟨g, i, none⟩ = some v := by
  obtain ⟨lo, hi, h1, _⟩ := h
  exact (cell_of_row W g i _ 5 (lo, hi) h1).trans hv
theorem ByA.frozen (h : ByA W g l rest) {i : Nat} (hi' : i < l.length) : W.frozen? ⟨g, i, none⟩ = false := by
  obtain ⟨lo, hi, h1, h2⟩ := h
  simp [World.frozen?, h1]
  omega
theorem ByA.far (h : ByA W g l rest) {p : Addr} (hp : g ≠ p.block) (u : Value) : ByA (W.setCell p u) g l rest := by
  obtain ⟨lo, hi, h1, h2⟩ := h
  exact ⟨lo, hi, (Below.heap_setCell W p u g hp).trans h1, h2⟩
theorem ByA.below {B : Nat} (h : ByA W g l rest) (hb : Below B W W') (hg : g < B) : ByA W' g l rest := by
  obtain ⟨lo, hi, h1, h2⟩ := h
  exact ⟨lo, hi, (hb.block g hg).trans h1, h2⟩
theorem ByA.alloc (h : ByA W g l rest) (o : Obj) : ByA (W.alloc o) g l rest := by
  have hl := h.lt
  obtain ⟨lo, hi, h1, h2⟩ := h
  exact ⟨lo, hi, (Below.heap_alloc W o g hl).trans h1, h2⟩
theorem ByA.kept {row : Option Nat} (h : ByA W g l rest) (hb : W.grownBy W' row) (hr : ∀ r, row = some r → ∃ o : Obj, W.heap[r]? = some o ∧ o.isCells = false) : ByA W' g l rest := by
  have hl := h.lt
  obtain ⟨lo, hi, h1, h2⟩ := h
  refine ⟨lo, hi, (hb.block g hl (fun e => ?_)).trans h1, h2⟩
  obtain ⟨o, ho, hc⟩ := hr g e.symm
  rw [h1] at ho
  cases ho
  cases hc
end
theorem ByA.set_ {W : World} {g : Nat} {l : List Nat} {rest : List Value} (h : ByA W g l rest) {i : Nat} (hi : i < l.length) (x : Nat) : ByA (W.setCell ⟨g, i, none⟩ (.int .u8 (x : Int))) g (l.set i x) rest := by
  obtain ⟨lo, hi2, h1, h2⟩ := h
  have he : ((byC l ++ rest).toArray.setIfInBounds i (.int .u8 (x : Int))) = (byC (l.set i x) ++ rest).toArray := by
    unfold byC
    rw [List.setIfInBounds_toArray, List.set_append_left _ _ (by simpa using hi), List.map_set]
  refine ⟨lo, hi2, ?_, by simpa using h2⟩
  rw [← he]
  simp [World.setCell, Array.getElem?_modify, h1]
theorem sb_val {x n q : Nat} (hx : x < 256) (hn : n < 8) (hq : q < 2) : bits .or .u8 (bits .andNot .u8 (x : Int) (2 ^ n % 256)) ((q : Int) % 256 * 2 ^ n % 256) = (sb x n q : Nat) := by
  revert x n q
  have h : ∀ x : Fin 256, ∀ n : Fin 8, ∀ q : Fin 2, bits .or .u8 (bits .andNot .u8 (x.1 : Int) (2 ^ n.1 % 256)) ((q.1 : Int) % 256 * 2 ^ n.1 % 256) = (sb x.1 n.1 q.1 : Nat) := by decide +kernel
  intro x n q hx hn hq
  exact h ⟨x, hx⟩ ⟨n, hn⟩ ⟨q, hq⟩
theorem and_one64 {u : Nat} (hu : u < 18446744073709551616) : bits .and .u64 (u : Int) 1 = ((u % 2 : Nat) : Int) := by
  have h := u64_and_nat u 1 hu (by omega)
  rw [Nat.and_one_is_mod] at h
  exact h
theorem fin_range (n : Nat) : (List.finRange n).map (·.1) = List.range n := by
  apply List.ext_getElem
  · simp
  · intro i h1 h2
    simp
/-- But for block g the world is as it was, where it was. -/
structure Gx (g : Nat) (w W : World) : Prop where
  os : W.os = w.os
  tape : W.tape = w.tape
  output : W.output = w.output
  size : w.heap.size ≤ W.heap.size
  block : ∀ k, k < w.heap.size → k ≠ g → W.heap[k]? = w.heap[k]?
theorem Gx.of {g : Nat} {w W : World} (h : Below w.heap.size w W) : Gx g w W := ⟨h.os, h.tape, h.output, h.size, fun k hk _ => h.block k hk⟩
theorem Gx.below {g : Nat} {w W W1 : World} (h : Gx g w W) (hb : Below w.heap.size W W1) : Gx g w W1 :=
  ⟨hb.os.trans h.os, hb.tape.trans h.tape, hb.output.trans h.output, Nat.le_trans h.size hb.size, fun k hk hg => (hb.block k hk).trans (h.block k hk hg)⟩
theorem Gx.setG {g : Nat} {w W : World} (h : Gx g w W) (i : Nat) (v : Value) : Gx g w (W.setCell ⟨g, i, none⟩ v) := by
  have hg := grown_set W g i v
  exact ⟨hg.os.trans h.os, hg.tape.trans h.tape, hg.output.trans h.output, Nat.le_trans h.size hg.size, fun k hk hne => (hg.block k (Nat.lt_of_lt_of_le hk h.size) (by simpa using hne)).trans (h.block k hk hne)⟩
theorem Gx.setF {g f : Nat} {w W : World} (h : Gx g w W) (hf : w.heap.size ≤ f) (i : Nat) (v : Value) : Gx g w (W.setCell ⟨f, i, none⟩ v) := by
  have hg := grown_set W f i v
  exact ⟨hg.os.trans h.os, hg.tape.trans h.tape, hg.output.trans h.output, Nat.le_trans h.size hg.size, fun k hk hne => (hg.block k (Nat.lt_of_lt_of_le hk h.size) (by simp; omega)).trans (h.block k hk hne)⟩
theorem Gx.grown {g : Nat} {w W W1 : World} {row : Option Nat} (h : Gx g w W) (hg : W.grownBy W1 row) (hr : ∀ k, row = some k → w.heap.size ≤ k) : Gx g w W1 :=
  ⟨hg.os.trans h.os, hg.tape.trans h.tape, hg.output.trans h.output, Nat.le_trans h.size hg.size, fun k hk hne => (hg.block k (Nat.lt_of_lt_of_le hk h.size) (fun e => by have := hr k e.symm; omega)).trans (h.block k hk hne)⟩
structure WrI (w : World) (g cap : Nat) (l : List Nat) (rest : List Value) (bt bs : Nat) (kx : Int) (u : Nat) (pre : List Nat) (W : World) : Prop where
  g3 : Bk W w.heap.size 75 #[.slice (some ⟨g, 0, none⟩) l.length cap]
  g6 : Bk W (w.heap.size + 1 + 1) 33 #[.int .u64 ((u / 2 ^ pre.length : Nat) : Int)]
  by_ : ByA W g (wrQ l bt u pre).1 rest
  gx : Gx g w W
  gb : Bk W (w.heap.size + 1 + 1 + 1) 48 #[.int .i64 bt, .int .i64 bs, .int .i64 kx]
theorem WrI.below {w : World} {g cap : Nat} {l : List Nat} {rest : List Value} {bt bs : Nat} {kx : Int} {u : Nat} {pre : List Nat} {W W1 : World} (h : WrI w g cap l rest bt bs kx u pre W) (hb : Below W.heap.size W W1) : WrI w g cap l rest bt bs kx u pre W1 :=
  ⟨h.g3.below hb h.g3.lt, h.g6.below hb h.g6.lt, h.by_.below hb h.by_.lt, h.gx.below (hb.mono h.gx.size), h.gb.below hb h.gb.lt⟩
theorem WrI.own {w : World} {g cap : Nat} {l : List Nat} {rest : List Value} {bt bs : Nat} {kx : Int} {u B1 : Nat} (hB : w.heap.size ≤ B1) : OwnFrom B1 (fun (pre : List (Fin bs)) W => WrI w g cap l rest bt bs kx u (pre.map (·.1)) W) := fun s A C row h hg hr => by
  have hr' : ∀ r, row = some r → ∃ o : Obj, A.heap[r]? = some o ∧ o.isCells = false := fun r e => (hr r e).2
  exact ⟨h.g3.kept hg hr', h.g6.kept hg hr', h.by_.kept hg hr', h.gx.grown hg (fun k e => Nat.le_trans hB (hr k e).1), h.gb.kept hg hr'⟩
set_option maxRecDepth 100000 in
set_option maxHeartbeats 4000000 in
theorem write_c (g cap : Nat) (l : List Nat) (rest : List Value) (bt bs : Nat) (kx v : Int) (u : Nat) (w : World) (h : ByA w g l rest) (hx : ∀ x ∈ l, x < 256) (hb : bt + bs ≤ 8 * l.length) (hl : l.length ≤ 65536) (hb64 : bs ≤ 64) (hu : v % 18446744073709551616 = (u : Int)) :
    Calls Try.prog 91 #[.slice (some ⟨g, 0, none⟩) l.length cap, .agg #[.int .i64 bt, .int .i64 bs, .int .i64 kx], .int .i64 v] w fun e w' => (∃ r, e = .returned r) ∧ ByA w' g (wrS l bt u bs) rest ∧ Gx g w w' := by
  have hwv : IntKind.u64.wrap v = (u : Int) := by rw [IntKind.wrap_u64]; exact hu
  have hgl := h.lt
  refine (callsIn_wide (n := 9)).1 (callsIn_of_wp_marks Try.func91 rfl trivial ?_ rfl)
  simp only [Try.ntmps91, List.size_toArray, List.length_cons, List.length_nil, Nat.reduceAdd, Nat.reduceSub, Array.replicate_succ, Array.replicate_zero, List.push_toArray, List.append_toArray, List.nil_append, List.cons_append]
  refine wpIn_wide.2 ?_
  go_wp2_with fail
  refine (bits_c _ _ _ _).mono ?_
  rintro e w1 ⟨rfl, rfl⟩
  have q3 := (((Bk.new w 75 #[.slice (some ⟨g, 0, none⟩) l.length cap]).alloc (.cells #[.int .i64 bt, .int .i64 bs, .int .i64 kx] 48)).alloc (.cells #[.int .u64 (u : Int)] 33)).alloc (.cells #[.int .i64 bt, .int .i64 bs, .int .i64 kx] 48)
  have q6 := (Bk.new2 w (.cells #[.slice (some ⟨g, 0, none⟩) l.length cap] 75) (.cells #[.int .i64 bt, .int .i64 bs, .int .i64 kx] 48) 33 #[.int .u64 (u : Int)]).alloc (.cells #[.int .i64 bt, .int .i64 bs, .int .i64 kx] 48)
  have qb := Bk.newk (w := ((w.alloc (.cells #[.slice (some ⟨g, 0, none⟩) l.length cap] 75)).alloc (.cells #[.int .i64 bt, .int .i64 bs, .int .i64 kx] 48)).alloc (.cells #[.int .u64 (u : Int)] 33)) (g := w.heap.size + 1 + 1 + 1) (t := 48) (cs := #[.int .i64 bt, .int .i64 bs, .int .i64 kx]) (by simp)
  have hbl := bel_alloc (bel_alloc (bel_alloc (bel_alloc (Below.refl _ w) (.cells #[.slice (some ⟨g, 0, none⟩) l.length cap] 75)) (.cells #[.int .i64 bt, .int .i64 bs, .int .i64 kx] 48)) (.cells #[.int .u64 (u : Int)] 33)) (.cells #[.int .i64 bt, .int .i64 bs, .int .i64 kx] 48)
  go_wp2_with fail
  have hsz : ((((w.alloc (.cells #[.slice (some ⟨g, 0, none⟩) l.length cap] 75)).alloc (.cells #[.int .i64 bt, .int .i64 bs, .int .i64 kx] 48)).alloc (.cells #[.int .u64 (u : Int)] 33)).alloc (.cells #[.int .i64 bt, .int .i64 bs, .int .i64 kx] 48)).heap.size = w.heap.size + 1 + 1 + 1 + 1 := by simp
  generalize World.alloc (World.alloc (World.alloc (World.alloc w _) _) _) _ = X at q3 q6 qb hbl hsz ⊢
  refine range_box (n := 9) (α := Fin bs) (fun T x _ => (((T.setIfInBounds 13 (.int .i64 (((bt + x.1 : Nat) : Int) / 8))).setIfInBounds 14 (.int .u64 (((bt + x.1 : Nat) : Int) % 8))).setIfInBounds 7 (.int .i64 (((bt + x.1 : Nat) : Int) / 8))).setIfInBounds 8 (.int .u64 (((bt + x.1 : Nat) : Int) % 8))) (fun _ _ _ => True)
    (by omega) rfl (enters_of Try.func126 (by kernel_rfl) rfl)
    (bits_stops 8 (by omega) (w.heap.size + 1 + 1 + 1) bt bs (by omega) _ (qb.at_ rfl) (qb.at_ (i := 1) rfl)) Kp1_t ?hKb ?hps
    (fun pre W => WrI w g cap l rest bt bs kx u (pre.map (·.1)) W)
    (fun _ _ _ => False)
    ?hI ?hIx ?h0 (fun _ _ _ _ _ _ _ _ _ => trivial) ?assign ?body ?done ?stop
  case hKb => exact fun W l o o' hl _ _ _ => World.putObj_heap_other (by omega)
  case hps => exact fun _ => rfl
  case hI => exact WrI.own (by omega)
  case hIx => exact fun c' s X C row h hg hr => h
  case h0 => exact ⟨q3, by simpa using q6, h.below hbl hgl, .of hbl, qb⟩
  case assign =>
    intro rr pre x W K hi hK
    simp only [bitEncF, bitEnc, List.zip_toArray, List.zip_cons_cons, List.zip_nil_right, List.foldl_toArray', List.size_toArray, List.length_cons, List.length_nil, Nat.reduceAdd, List.foldl_cons, List.foldl_nil, List.setIfInBounds_toArray, List.set_cons_succ, List.set_cons_zero] at hK ⊢
    gi_wp2
    exact hK 0 _ (KeepsFrom.refl _ _) rfl hi trivial
  case body =>
    intro rr pre x Bx W hr hi _ hlen
    simp only [List.setIfInBounds_toArray, List.set_cons_succ, List.set_cons_zero]
    obtain ⟨x, hxb⟩ := x
    simp only
    obtain ⟨i8, r8, e8, e9, hi8, hr8⟩ : ∃ i8 r8 : Nat, (((bt + x : Nat) : Int) / 8) = (i8 : Int) ∧ (((bt + x : Nat) : Int) % 8) = (r8 : Int) ∧ i8 < l.length ∧ r8 < 8 := ⟨(bt + x) / 8, (bt + x) % 8, by omega, by omega, by omega, by omega⟩
    rw [e8, e9]
    obtain ⟨qs, hqs⟩ : ∃ y, pre.map (·.1) = y := ⟨_, rfl⟩
    rw [hqs] at hi
    have hql : qs.length < 64 := by rw [← hqs, List.length_map]; omega
    have hqlt : ∀ y ∈ qs, y < bs := fun y hy => by
      rw [← hqs] at hy
      obtain ⟨z, _, rfl⟩ := List.mem_map.1 hy
      exact z.2
    obtain ⟨L, hL⟩ : ∃ L, (wrQ l bt u qs).1 = L := ⟨_, rfl⟩
    have hLl : L.length = l.length := by rw [← hL]; exact wrQ_len ..
    have hLx : ∀ y ∈ L, y < 256 := by rw [← hL]; exact wrQ_lt hx hb qs hqlt
    obtain ⟨xb, hxb0⟩ : ∃ y, L[i8]? = some y := ⟨_, List.getElem?_eq_getElem (by omega)⟩
    have hxlt := hLx xb (List.mem_of_getElem? hxb0)
    have HI := Lib.hid hi
    have hby := hi.by_
    rw [hL] at hby
    have c8 : W.cell? ⟨g, 0 + i8, none⟩ = some (.int .u8 (xb : Int)) := by
      rw [Nat.zero_add]
      refine hby.at_ ?_
      simp [byC, List.getElem?_append, hxb0]
      intro h; omega
    have d8 : W.frozen? ⟨g, 0 + i8, none⟩ = false := by rw [Nat.zero_add]; exact hby.frozen (by omega)
    rw [Nat.zero_add] at c8 d8
    have u3 := hi.g3.at_ (i := 0) rfl
    have u6 := hi.g6.at_ (i := 0) rfl
    have fu6 := hi.g6.frozen 0
    obtain ⟨uk, huk⟩ : ∃ y, u / 2 ^ qs.length = y := ⟨_, rfl⟩
    rw [huk] at u6
    have z1 : (0 : Int) ≤ (i8 : Int) := Int.natCast_nonneg _
    have z2 : (i8 : Int) < (l.length : Int) := by omega
    have z3 : (0 : Int) ≤ (r8 : Int) := Int.natCast_nonneg _
    have z4 : (r8 : Int) < 8 := by omega
    have HBY := Lib.hid hby
    have HQS := Lib.hid hqs
    have n8 : (bt + x) / 8 = i8 := by omega
    have n9 : (bt + x) % 8 = r8 := by omega
    have HLL := Lib.hid hL
    have HX0 := Lib.hid hxb0
    clear hi hby hqs
    gi_wp2_with fail
    refine regionIn_tail (C := fun w' => ∃ n, w' = W.drewN n) 16 (by kernel_rfl) (by kernel_rfl) (by kernel_rfl) ⟨1, rfl⟩ ?_
    simp only [List.take_succ_cons, List.take_zero, List.drop_succ_cons, List.drop_zero]
    repeat (go_big_quiet_step (fail))
    refine wpQuiet_nil ?_
    rintro _ ⟨nd, rfl⟩
    have hukl : uk < 18446744073709551616 := by
      rw [← huk]
      exact Nat.lt_of_le_of_lt (Nat.div_le_self _ _) (by omega)
    rw [and_one64 hukl, sb_val hxlt hr8 (Nat.mod_lt _ (by omega))]
    have HD := Lib.hid (HI.out.below (bel_drewN (Below.refl W.heap.size W) nd))
    replace c8 : (W.drewN nd).cell? ⟨g, i8, none⟩ = some (.int .u8 (xb : Int)) := c8
    replace d8 : (W.drewN nd).frozen? ⟨g, i8, none⟩ = false := d8
    replace u6 : (W.drewN nd).cell? ⟨w.heap.size + 1 + 1, 0, none⟩ = some (.int .u64 (uk : Int)) := u6
    replace fu6 : (W.drewN nd).frozen? ⟨w.heap.size + 1 + 1, 0, none⟩ = false := fu6
    have hkd : KeepsFrom X.heap.size W (W.drewN nd) := ⟨Nat.le_refl _, fun _ _ _ h _ => h⟩
    have hhd : (W.drewN nd).heap[w.heap.size + 1 + 1 + 1]? = W.heap[w.heap.size + 1 + 1 + 1]? := rfl
    generalize World.drewN W nd = W2 at c8 d8 u6 fu6 HD hkd hhd ⊢
    obtain ⟨nb, hnb⟩ : ∃ y, sb xb r8 (uk % 2) = y := ⟨_, rfl⟩
    rw [hnb]
    clear u3
    have HNB := Lib.hid hnb
    have HUK := Lib.hid huk
    gi_wp2_with fail
    have hgne : w.heap.size + 1 + 1 ≠ g := by omega
    refine ⟨hkd.trans (keeps_set (keeps_set (KeepsFrom.refl _ _) _ _) _ _), ?_, ?_⟩
    · exact (Below.heap_setCell _ ⟨w.heap.size + 1 + 1, 0, none⟩ _ _ (by dsimp only; omega)).trans ((Below.heap_setCell _ ⟨g, i8, none⟩ _ _ (by dsimp only; omega)).trans hhd)
    · dsimp only
      rw [List.map_append, HQS.out]
      have hb2 : ByA W2 g L rest := by have := HD.out.by_; rwa [HLL.out] at this
      refine ⟨(HD.out.g3.far (p := ⟨g, i8, none⟩) (by dsimp only; omega) _).far (p := ⟨w.heap.size + 1 + 1, 0, none⟩) (by dsimp only; omega) _, ?_, ?_, (HD.out.gx.setG i8 _).setF (by omega) 0 _, (HD.out.gb.far (p := ⟨g, i8, none⟩) (by dsimp only; omega) _).far (p := ⟨w.heap.size + 1 + 1, 0, none⟩) (by dsimp only; omega) _⟩
      · have e := (HD.out.g6.far (p := ⟨g, i8, none⟩) (by dsimp only; omega) (.int .u8 (nb : Int))).set_ 0 (.int .u64 ((uk : Int) / 2))
        simp only [List.setIfInBounds_toArray, List.set_cons_zero] at e
        have hk2 : ((u / 2 ^ (qs ++ [x]).length : Nat) : Int) = (uk : Int) / 2 := by
          rw [← HUK.out, List.length_append, List.length_singleton, Nat.pow_succ, ← Nat.div_div_eq_div_mul]
          omega
        simp only [List.map_cons, List.map_nil]
        rw [hk2]
        exact e
      · simp only [List.map_cons, List.map_nil]
        rw [wrQ_snoc, HLL.out]
        show ByA _ g (wr1 L (bt + x) (u / 2 ^ (wrQ l bt u qs).2 % 2)) rest
        unfold wr1
        rw [wrQ_n, HUK.out, n8, n9, HX0.out]
        show ByA _ g (L.set i8 (sb xb r8 (uk % 2))) rest
        rw [HNB.out]
        exact (hb2.set_ (by omega) nb).far (p := ⟨w.heap.size + 1 + 1, 0, none⟩) (by dsimp only; omega) _
  case done =>
    intro D xs W hD hxs hi hK
    subst hxs
    have HI := Lib.hid hi
    have KB : Below w.heap.size W (W.putObj D (.deferred none)) := belowK_b (w := w) (Nat.le_refl _) W D _ _ (by omega) hK rfl rfl
    clear hi
    go_wp2_with fail
    refine ⟨by simp, .inl ⟨_, _, rfl, run_takeDeferred hK, ?_⟩⟩
    refine ⟨_, results_none rfl _ _ _, ⟨_, rfl⟩, ?_, HI.out.gx.below KB⟩
    have h := HI.out.by_
    rw [fin_range] at h
    exact h.below KB hgl
  case stop => exact fun D c' pre W hD hxs hi hK => hi.elim
end Go.Proofs.Ytcggghamnmflcaa
namespace Go.Proofs.Ytcggghamnmflcaa
open Go Go.RowKit Go.Shelf
attribute [local go_sem] wide_fn Oper.semAt_some
/-- Bit a of bytes. -/
def bitN (l : List Nat) (a : Nat) : Nat := (l[a / 8]?.getD 0) / 2 ^ (a % 8) % 2
/-- The bits read, the first one lowest. -/
def rdQ (l : List Nat) (bt : Nat) (pre : List Nat) : Nat × Nat := pre.foldl (fun s x => (s.1 + bitN l (bt + x) * 2 ^ s.2, s.2 + 1)) (0, 0)
theorem rdQ_snoc (l : List Nat) (bt : Nat) (pre : List Nat) (x : Nat) : rdQ l bt (pre ++ [x]) = ((rdQ l bt pre).1 + bitN l (bt + x) * 2 ^ (rdQ l bt pre).2, (rdQ l bt pre).2 + 1) := by
  unfold rdQ
  rw [List.foldl_append]
  rfl
theorem bitN_lt (l : List Nat) (a : Nat) : bitN l a < 2 := Nat.mod_lt _ (by omega)
theorem rdQ_n0 (l : List Nat) (bt : Nat) : ∀ (pre : List Nat) (s : Nat × Nat), s.1 < 2 ^ s.2 → (pre.foldl (fun s x => (s.1 + bitN l (bt + x) * 2 ^ s.2, s.2 + 1)) s).2 = s.2 + pre.length ∧ (pre.foldl (fun s x => (s.1 + bitN l (bt + x) * 2 ^ s.2, s.2 + 1)) s).1 < 2 ^ (s.2 + pre.length)
  | [], s, h => ⟨rfl, h⟩
  | x :: pre, s, h => by
    rw [List.foldl_cons]
    have hb := bitN_lt l (bt + x)
    obtain ⟨a, b⟩ := rdQ_n0 l bt pre (s.1 + bitN l (bt + x) * 2 ^ s.2, s.2 + 1) (by
      show s.1 + bitN l (bt + x) * 2 ^ s.2 < 2 ^ (s.2 + 1)
      rw [Nat.pow_succ]
      rcases (show bitN l (bt + x) = 0 ∨ bitN l (bt + x) = 1 by omega) with h | h <;> rw [h] <;> omega)
    refine ⟨by rw [a]; simp; omega, ?_⟩
    rw [List.length_cons, show s.2 + (pre.length + 1) = s.2 + 1 + pre.length by omega]
    exact b
theorem rdQ_n (l : List Nat) (bt : Nat) (pre : List Nat) : (rdQ l bt pre).2 = pre.length ∧ (rdQ l bt pre).1 < 2 ^ pre.length := by
  have h := rdQ_n0 l bt pre (0, 0) (by decide)
  unfold rdQ
  simpa using h
def rdN (l : List Nat) (bt bs : Nat) : Nat := (rdQ l bt (List.range bs)).1
/-- A number of 64 bits, as an int64. -/
def i64S (u : Nat) : Int := if u < 9223372036854775808 then (u : Int) else (u : Int) - 18446744073709551616
/-- What is read. -/
def rdS (u bs : Nat) (k : Int) : Int := if kuns k = true then i64S u else if bs < 64 ∧ u / 2 ^ (bs - 1) = 1 then (u : Int) - 2 ^ bs else i64S u
theorem join64 {u k q : Nat} (hu : u < 2 ^ k) (hk : k < 64) (hq : q < 2) : bits .or .u64 (u : Int) ((q : Int) * 2 ^ k % 18446744073709551616) = ((u + q * 2 ^ k : Nat) : Int) := by
  have hp : 2 ^ k ≤ 2 ^ 63 := Nat.pow_le_pow_right (by omega) (by omega)
  have hqk : q * 2 ^ k ≤ 2 ^ 63 := by rcases (show q = 0 ∨ q = 1 by omega) with h | h <;> subst h <;> omega
  have e1 : ((q : Int) * 2 ^ k % 18446744073709551616) = ((q * 2 ^ k : Nat) : Int) := by
    rw [Int.natCast_mul, Int.natCast_pow]
    have : ((q * 2 ^ k : Nat) : Int) = (q : Int) * 2 ^ k := by rw [Int.natCast_mul, Int.natCast_pow]; rfl
    have h2 : (0 : Int) ≤ (q : Int) * 2 ^ k := by rw [← this]; exact Int.natCast_nonneg _
    have h3 : (q : Int) * 2 ^ k ≤ 2 ^ 63 := by rw [← this]; exact Int.ofNat_le.2 hqk
    exact Int.emod_eq_of_lt h2 (by omega)
  rw [e1, u64_or_nat u (q * 2 ^ k) (by omega) (by omega), Nat.or_comm, nat_join k (q * 2 ^ k) u (Nat.mul_mod_left _ _) hu, Nat.add_comm]
structure RdI (w : World) (g cap : Nat) (l : List Nat) (rest : List Value) (bt bs : Nat) (kx : Int) (pre : List Nat) (W : World) : Prop where
  g2 : Bk W w.heap.size 75 #[.slice (some ⟨g, 0, none⟩) l.length cap]
  g3 : Bk W (w.heap.size + 1) 48 #[.int .i64 bt, .int .i64 bs, .int .i64 kx]
  g5 : Bk W (w.heap.size + 1 + 1) 33 #[.int .u64 (((rdQ l bt pre).1 : Nat) : Int)]
  g6 : Bk W (w.heap.size + 1 + 1 + 1) 3 #[.int .i64 (pre.length : Int)]
  by_ : ByA W g l rest
  bel : Below w.heap.size w W
  gb : Bk W (w.heap.size + 1 + 1 + 1 + 1) 48 #[.int .i64 bt, .int .i64 bs, .int .i64 kx]
theorem RdI.below {w : World} {g cap : Nat} {l : List Nat} {rest : List Value} {bt bs : Nat} {kx : Int} {pre : List Nat} {W W1 : World} (h : RdI w g cap l rest bt bs kx pre W) (hb : Below W.heap.size W W1) : RdI w g cap l rest bt bs kx pre W1 :=
  ⟨h.g2.below hb h.g2.lt, h.g3.below hb h.g3.lt, h.g5.below hb h.g5.lt, h.g6.below hb h.g6.lt, h.by_.below hb h.by_.lt, h.bel.trans (hb.mono h.bel.size), h.gb.below hb h.gb.lt⟩
theorem RdI.own {w : World} {g cap : Nat} {l : List Nat} {rest : List Value} {bt bs : Nat} {kx : Int} {B1 : Nat} (hB : w.heap.size ≤ B1) : OwnFrom B1 (fun (pre : List (Fin bs)) W => RdI w g cap l rest bt bs kx (pre.map (·.1)) W) := fun s A C row h hg hr => by
  have hr' : ∀ r, row = some r → ∃ o : Obj, A.heap[r]? = some o ∧ o.isCells = false := fun r e => (hr r e).2
  exact ⟨h.g2.kept hg hr', h.g3.kept hg hr', h.g5.kept hg hr', h.g6.kept hg hr', h.by_.kept hg hr', h.bel.grown hg h.bel.size (fun k e => Nat.le_trans hB (hr k e).1), h.gb.kept hg hr'⟩
theorem and_one8 {u : Nat} (hu : u < 256) : bits .and .u8 (u : Int) 1 = ((u % 2 : Nat) : Int) := by
  have h := u8_and_nat u 1 hu (by omega)
  rw [Nat.and_one_is_mod] at h
  exact h
theorem i64S_wrap {u : Nat} (hu : u < 18446744073709551616) : wrap64 (u : Int) = i64S u := by
  have h : wrap64 (u : Int) = ((u : Int) + 9223372036854775808) % 18446744073709551616 - 9223372036854775808 := by unfold wrap64; rfl
  rw [h]
  unfold i64S
  split <;> omega
theorem sign64 {u bs : Nat} (hb1 : 1 ≤ bs) (hb64 : bs ≤ 64) (hu : u < 2 ^ bs) : wrap64 (IntKind.u64.wrap ((u : Int) * 2 ^ (64 - bs))) / 2 ^ (64 - bs) = if bs < 64 ∧ u / 2 ^ (bs - 1) = 1 then (u : Int) - 2 ^ bs else i64S u := by
  obtain ⟨H, hH⟩ : ∃ H, 2 ^ (bs - 1) = H := ⟨_, rfl⟩
  obtain ⟨P, hP⟩ : ∃ P, 2 ^ (64 - bs) = P := ⟨_, rfl⟩
  have h1 : H * P = 9223372036854775808 := by
    rw [← hH, ← hP, ← Nat.pow_add, show bs - 1 + (64 - bs) = 63 by omega]
  have h2 : 2 ^ bs = 2 * H := by
    rw [← hH, ← Nat.pow_succ', show (bs - 1).succ = bs by omega]
  have hP1 : 1 ≤ P := by rw [← hP]; exact Nat.one_le_two_pow
  have eP : ((2 : Int) ^ (64 - bs)) = (P : Int) := by rw [← hP, Int.natCast_pow]; rfl
  have eB : ((2 : Int) ^ bs) = 2 * (H : Int) := by
    have : ((2 ^ bs : Nat) : Int) = ((2 * H : Nat) : Int) := by rw [h2]
    rw [Int.natCast_pow] at this
    rw [Int.natCast_mul] at this
    exact this
  rw [h2] at hu
  rw [eP, eB, hH]
  have e1 : ((u : Int) * (P : Int)) = ((u * P : Nat) : Int) := (Int.natCast_mul _ _).symm
  have hw : ∀ x : Int, wrap64 x = (x + 9223372036854775808) % 18446744073709551616 - 9223372036854775808 := fun x => by unfold wrap64; rfl
  have hPi : (P : Int) ≠ 0 := by omega
  rcases Nat.lt_or_ge u H with hc | hc
  · have h3 : u * P + P ≤ 9223372036854775808 := by
      have := Nat.mul_le_mul_right P (show u + 1 ≤ H by omega)
      rw [Nat.add_mul, Nat.one_mul] at this
      omega
    have h4 : u / H = 0 := Nat.div_eq_of_lt hc
    have hle : u ≤ u * P := Nat.le_mul_of_pos_right u (by omega)
    rw [e1, IntKind.wrap_u64, hw, show (((u * P : Nat) : Int) % 18446744073709551616 + 9223372036854775808) % 18446744073709551616 - 9223372036854775808 = ((u * P : Nat) : Int) by omega, ← e1, Int.mul_ediv_cancel _ hPi, h4, if_neg (by omega)]
    unfold i64S
    rw [if_pos (by omega)]
  · have h3 : 9223372036854775808 ≤ u * P := by rw [← h1]; exact Nat.mul_le_mul_right P hc
    have h3' : u * P < 18446744073709551616 := by
      have := Nat.mul_le_mul_right P (show u + 1 ≤ 2 * H by omega)
      rw [Nat.add_mul, Nat.one_mul, Nat.mul_assoc, h1] at this
      omega
    have h5 : ((u * P : Nat) : Int) - 18446744073709551616 = ((u : Int) - 2 * (H : Int)) * (P : Int) := by
      rw [Int.sub_mul, e1, Int.mul_assoc, show (H : Int) * (P : Int) = ((H * P : Nat) : Int) from (Int.natCast_mul _ _).symm, h1]
      omega
    rw [e1, IntKind.wrap_u64, hw, show (((u * P : Nat) : Int) % 18446744073709551616 + 9223372036854775808) % 18446744073709551616 - 9223372036854775808 = ((u * P : Nat) : Int) - 18446744073709551616 by omega, h5, Int.mul_ediv_cancel _ hPi]
    have h6 : u / H = 1 := by
      have hH0 : 0 < H := by rw [← hH]; exact Nat.pow_pos (by omega)
      rw [Nat.div_eq_iff hH0]
      omega
    by_cases h64 : bs < 64
    · rw [if_pos ⟨h64, h6⟩]
    · rw [if_neg (by omega)]
      have : bs = 64 := by omega
      subst this
      simp at hH
      unfold i64S
      rw [if_neg (by omega)]
      omega
set_option maxRecDepth 100000 in
set_option maxHeartbeats 4000000 in
theorem read_c (g cap : Nat) (l : List Nat) (rest : List Value) (bt bs : Nat) (kx : Int) (w : World) (h : ByA w g l rest) (hx : ∀ x ∈ l, x < 256) (hb : bt + bs ≤ 8 * l.length) (hl : l.length ≤ 65536) (hb1 : 1 ≤ bs) (hb64 : bs ≤ 64) :
    Calls Try.prog 97 #[.slice (some ⟨g, 0, none⟩) l.length cap, .agg #[.int .i64 bt, .int .i64 bs, .int .i64 kx]] w fun e w' => e = .returned (.int .i64 (rdS (rdN l bt bs) bs kx)) ∧ Below w.heap.size w w' := by
  have hgl := h.lt
  refine (callsIn_wide (n := 9)).1 (callsIn_of_wp_marks Try.func97 rfl trivial ?_ rfl)
  simp only [Try.ntmps97, List.size_toArray, List.length_cons, List.length_nil, Nat.reduceAdd, Nat.reduceSub, Array.replicate_succ, Array.replicate_zero, List.push_toArray, List.append_toArray, List.nil_append, List.cons_append]
  refine wpIn_wide.2 ?_
  go_wp2_with fail
  refine (bits_c _ _ _ _).mono ?_
  rintro e w1 ⟨rfl, hw1⟩
  obtain ⟨X, hX⟩ : ∃ X, w1 = X := ⟨_, rfl⟩
  have hXX : X = ((((w.alloc (.cells #[.slice (some ⟨g, 0, none⟩) l.length cap] 75)).alloc (.cells #[.int .i64 bt, .int .i64 bs, .int .i64 kx] 48)).alloc (.cells #[.int .u64 0] 33)).alloc (.cells #[.int .i64 0] 3)).alloc (.cells #[.int .i64 bt, .int .i64 bs, .int .i64 kx] 48) := by rw [← hX]; exact hw1.symm
  have q2 : Bk X w.heap.size 75 #[.slice (some ⟨g, 0, none⟩) l.length cap] := by rw [hXX]; exact ((((Bk.new w 75 _).alloc _).alloc _).alloc _).alloc _
  have q3 : Bk X (w.heap.size + 1) 48 #[.int .i64 bt, .int .i64 bs, .int .i64 kx] := by rw [hXX]; exact (((Bk.new1 w _ 48 _).alloc _).alloc _).alloc _
  have q5 : Bk X (w.heap.size + 1 + 1) 33 #[.int .u64 0] := by rw [hXX]; exact ((Bk.new2 w _ _ 33 _).alloc _).alloc _
  have q6 : Bk X (w.heap.size + 1 + 1 + 1) 3 #[.int .i64 0] := by rw [hXX]; exact (Bk.newk (by simp)).alloc _
  have qb : Bk X (w.heap.size + 1 + 1 + 1 + 1) 48 #[.int .i64 bt, .int .i64 bs, .int .i64 kx] := by rw [hXX]; exact Bk.newk (by simp)
  have hbl : Below w.heap.size w X := by rw [hXX]; exact bel_alloc (bel_alloc (bel_alloc (bel_alloc (bel_alloc (Below.refl _ w) _) _) _) _) _
  have hsz : X.heap.size = w.heap.size + 1 + 1 + 1 + 1 + 1 := by rw [hXX]; simp
  subst hX
  clear hXX hw1
  go_wp2_with fail
  refine range_box (n := 9) (α := Fin bs) (fun T x _ => (((T.setIfInBounds 12 (.int .i64 (((bt + x.1 : Nat) : Int) / 8))).setIfInBounds 13 (.int .u64 (((bt + x.1 : Nat) : Int) % 8))).setIfInBounds 7 (.int .i64 (((bt + x.1 : Nat) : Int) / 8))).setIfInBounds 8 (.int .u64 (((bt + x.1 : Nat) : Int) % 8))) (fun _ _ _ => True)
    (by omega) rfl (enters_of Try.func126 (by kernel_rfl) rfl)
    (bits_stops 8 (by omega) (w.heap.size + 1 + 1 + 1 + 1) bt bs (by omega) _ (qb.at_ rfl) (qb.at_ (i := 1) rfl)) Kp1_t ?hKb ?hps
    (fun pre W => RdI w g cap l rest bt bs kx (pre.map (·.1)) W)
    (fun _ _ _ => False)
    ?hI ?hIx ?h0 (fun _ _ _ _ _ _ _ _ _ => trivial) ?assign ?body ?done ?stop
  case hKb => exact fun W l o o' hl _ _ _ => World.putObj_heap_other (by omega)
  case hps => exact fun _ => rfl
  case hI => exact RdI.own (by omega)
  case hIx => exact fun c' s X C row h hg hr => h
  case h0 => exact ⟨q2, q3, q5, q6, h.below hbl hgl, hbl, qb⟩
  case assign =>
    intro rr pre x W K hi hK
    simp only [bitEncF, bitEnc, List.zip_toArray, List.zip_cons_cons, List.zip_nil_right, List.foldl_toArray', List.size_toArray, List.length_cons, List.length_nil, Nat.reduceAdd, List.foldl_cons, List.foldl_nil, List.setIfInBounds_toArray, List.set_cons_succ, List.set_cons_zero] at hK ⊢
    gi_wp2
    exact hK 0 _ (KeepsFrom.refl _ _) rfl hi trivial
  case body =>
    intro rr pre x Bx W hr hi _ hlen
    simp only [List.setIfInBounds_toArray, List.set_cons_succ, List.set_cons_zero]
    obtain ⟨x, hxb⟩ := x
    simp only
    obtain ⟨i8, r8, e8, e9, hi8, hr8⟩ : ∃ i8 r8 : Nat, (((bt + x : Nat) : Int) / 8) = (i8 : Int) ∧ (((bt + x : Nat) : Int) % 8) = (r8 : Int) ∧ i8 < l.length ∧ r8 < 8 := ⟨(bt + x) / 8, (bt + x) % 8, by omega, by omega, by omega, by omega⟩
    rw [e8, e9]
    obtain ⟨qs, hqs⟩ : ∃ y, pre.map (·.1) = y := ⟨_, rfl⟩
    rw [hqs] at hi
    have hql : qs.length < 64 := by rw [← hqs, List.length_map]; omega
    obtain ⟨xb, hxb0⟩ : ∃ y, l[i8]? = some y := ⟨_, List.getElem?_eq_getElem (by omega)⟩
    have hxlt := hx xb (List.mem_of_getElem? hxb0)
    have HI := Lib.hid hi
    have c8 : W.cell? ⟨g, 0 + i8, none⟩ = some (.int .u8 (xb : Int)) := by
      rw [Nat.zero_add]
      refine hi.by_.at_ ?_
      simp [byC, List.getElem?_append, hxb0]
      intro h; omega
    rw [Nat.zero_add] at c8
    have u2 := hi.g2.at_ (i := 0) rfl
    have u5 := hi.g5.at_ (i := 0) rfl
    have u6 := hi.g6.at_ (i := 0) rfl
    have fu5 := hi.g5.frozen 0
    have fu6 := hi.g6.frozen 0
    obtain ⟨-, hrl⟩ := rdQ_n l bt qs
    obtain ⟨uk, huk⟩ : ∃ y, (rdQ l bt qs).1 = y := ⟨_, rfl⟩
    rw [huk] at u5 hrl
    obtain ⟨kq, hkq⟩ : ∃ y, qs.length = y := ⟨_, rfl⟩
    rw [hkq] at u6 hrl hql
    have z1 : (0 : Int) ≤ (i8 : Int) := Int.natCast_nonneg _
    have z2 : (i8 : Int) < (l.length : Int) := by omega
    have z3 : (0 : Int) ≤ (r8 : Int) := Int.natCast_nonneg _
    have z4 : (r8 : Int) < 8 := by omega
    have z5 : (0 : Int) ≤ (kq : Int) := Int.natCast_nonneg _
    have z6 : (kq : Int) < 64 := by omega
    have HQS := Lib.hid hqs
    have HUK := Lib.hid huk
    have HKQ := Lib.hid hkq
    have n8 : (bt + x) / 8 = i8 := by omega
    have n9 : (bt + x) % 8 = r8 := by omega
    have HX0 := Lib.hid hxb0
    clear hi hqs huk hkq hxb0
    gi_wp2_with fail
    refine regionIn_tail (C := fun w' => ∃ n, w' = W.drewN n) 12 (by kernel_rfl) (by kernel_rfl) (by kernel_rfl) ⟨1, rfl⟩ ?_
    simp only [List.take_succ_cons, List.take_zero, List.drop_succ_cons, List.drop_zero]
    repeat (go_big_quiet_step (fail))
    refine wpQuiet_nil ?_
    rintro _ ⟨nd, rfl⟩
    obtain ⟨q, hq⟩ : ∃ y, xb / 2 ^ r8 % 2 = y := ⟨_, rfl⟩
    have hq2 : q < 2 := by rw [← hq]; exact Nat.mod_lt _ (by omega)
    have hval : bits .or .u64 (uk : Int) (IntKind.u64.wrap (IntKind.u64.wrap (bits .and .u8 ((xb : Int) / 2 ^ r8) 1) * 2 ^ kq)) = ((uk + q * 2 ^ kq : Nat) : Int) := by
      have e1 : ((xb : Int) / 2 ^ r8) = ((xb / 2 ^ r8 : Nat) : Int) := by rw [Int.natCast_ediv, Int.natCast_pow]; rfl
      rw [e1, and_one8 (Nat.lt_of_le_of_lt (Nat.div_le_self _ _) hxlt), hq, IntKind.wrap_u64, IntKind.wrap_u64, show (q : Int) % 18446744073709551616 = (q : Int) by omega]
      exact join64 hrl hql hq2
    rw [hval]
    have HD := Lib.hid (HI.out.below (bel_drewN (Below.refl W.heap.size W) nd))
    replace u5 : (W.drewN nd).cell? ⟨w.heap.size + 1 + 1, 0, none⟩ = some (.int .u64 (uk : Int)) := u5
    replace fu5 : (W.drewN nd).frozen? ⟨w.heap.size + 1 + 1, 0, none⟩ = false := fu5
    replace u6 : (W.drewN nd).cell? ⟨w.heap.size + 1 + 1 + 1, 0, none⟩ = some (.int .i64 (kq : Int)) := u6
    replace fu6 : (W.drewN nd).frozen? ⟨w.heap.size + 1 + 1 + 1, 0, none⟩ = false := fu6
    have hkd : KeepsFrom w1.heap.size W (W.drewN nd) := ⟨Nat.le_refl _, fun _ _ _ h _ => h⟩
    have hhd : (W.drewN nd).heap[w.heap.size + 1 + 1 + 1 + 1]? = W.heap[w.heap.size + 1 + 1 + 1 + 1]? := rfl
    generalize World.drewN W nd = W2 at u5 fu5 u6 fu6 HD hkd hhd ⊢
    obtain ⟨nu, hnu⟩ : ∃ y, uk + q * 2 ^ kq = y := ⟨_, rfl⟩
    rw [hnu]
    have HNU := Lib.hid hnu
    have HQ := Lib.hid hq
    clear u2 hval hnu hq c8
    gi_wp2_with fail
    refine ⟨hkd.trans (keeps_set (keeps_set (KeepsFrom.refl _ _) _ _) _ _), ?_, ?_⟩
    · exact (Below.heap_setCell _ ⟨w.heap.size + 1 + 1 + 1, 0, none⟩ _ _ (by dsimp only; omega)).trans ((Below.heap_setCell _ ⟨w.heap.size + 1 + 1, 0, none⟩ _ _ (by dsimp only; omega)).trans hhd)
    · dsimp only
      rw [List.map_append, HQS.out]
      simp only [List.map_cons, List.map_nil]
      refine ⟨(HD.out.g2.far (p := ⟨w.heap.size + 1 + 1, 0, none⟩) (by dsimp only; omega) _).far (p := ⟨w.heap.size + 1 + 1 + 1, 0, none⟩) (by dsimp only; omega) _, (HD.out.g3.far (p := ⟨w.heap.size + 1 + 1, 0, none⟩) (by dsimp only; omega) _).far (p := ⟨w.heap.size + 1 + 1 + 1, 0, none⟩) (by dsimp only; omega) _, ?_, ?_, (HD.out.by_.far (p := ⟨w.heap.size + 1 + 1, 0, none⟩) (by dsimp only; omega) _).far (p := ⟨w.heap.size + 1 + 1 + 1, 0, none⟩) (by dsimp only; omega) _, (HD.out.bel.setCell (p := ⟨w.heap.size + 1 + 1, 0, none⟩) (by dsimp only; omega) _).setCell (p := ⟨w.heap.size + 1 + 1 + 1, 0, none⟩) (by dsimp only; omega) _, (HD.out.gb.far (p := ⟨w.heap.size + 1 + 1, 0, none⟩) (by dsimp only; omega) _).far (p := ⟨w.heap.size + 1 + 1 + 1, 0, none⟩) (by dsimp only; omega) _⟩
      · have e := (HD.out.g5.set_ 0 (.int .u64 (nu : Int))).far (p := ⟨w.heap.size + 1 + 1 + 1, 0, none⟩) (by dsimp only; omega) (.int .i64 ((kq : Int) + 1))
        simp only [List.setIfInBounds_toArray, List.set_cons_zero] at e
        have hk2 : (rdQ l bt (qs ++ [x])).1 = nu := by
          rw [rdQ_snoc]
          show (rdQ l bt qs).1 + bitN l (bt + x) * 2 ^ (rdQ l bt qs).2 = nu
          rw [(rdQ_n l bt qs).1, HUK.out, HKQ.out, ← HNU.out]
          unfold bitN
          rw [n8, n9, HX0.out, Option.getD_some, HQ.out]
        rw [hk2]
        exact e
      · have e := (HD.out.g6.far (p := ⟨w.heap.size + 1 + 1, 0, none⟩) (by dsimp only; omega) (.int .u64 (nu : Int))).set_ 0 (.int .i64 ((kq : Int) + 1))
        simp only [List.setIfInBounds_toArray, List.set_cons_zero] at e
        have hk2 : (((qs ++ [x]).length : Nat) : Int) = (kq : Int) + 1 := by rw [List.length_append, HKQ.out]; rfl
        rw [hk2]
        exact e
  case done =>
    intro D xs W hD hxs hi hK
    subst hxs
    rw [fin_range] at hi
    have HI := Lib.hid hi
    have KB : Below w.heap.size W (W.putObj D (.deferred none)) := belowK_b (w := w) (Nat.le_refl _) W D _ _ (by omega) hK rfl rfl
    have t31 := hi.g3.at_ (i := 1) rfl
    have t32 := hi.g3.at_ (i := 2) rfl
    have t50 := hi.g5.at_ (i := 0) rfl
    have hun := (rdQ_n l bt (List.range bs)).2
    rw [List.length_range] at hun
    obtain ⟨u, hu⟩ : ∃ u, (rdQ l bt (List.range bs)).1 = u := ⟨_, rfl⟩
    rw [hu] at t50 hun
    have HU := Lib.hid (show rdN l bt bs = u from hu)
    have z1 : (0 : Int) ≤ 64 - (bs : Int) := by omega
    have z2 : 64 - (bs : Int) ≤ 63 := by omega
    have hu64 : u < 18446744073709551616 := Nat.lt_of_lt_of_le hun (Nat.pow_le_pow_right (n := 2) (by omega) hb64)
    clear hi hu
    go_wp2_with fail
    refine (uns_c kx W).mono ?_
    rintro e _ ⟨rfl, rfl⟩
    cases hk : kuns kx with
    | true =>
      go_wp2_with fail
      refine ⟨by simp, .inl ⟨_, _, rfl, run_takeDeferred hK, ?_⟩⟩
      refine ⟨_, results_tmp rfl _ _ _, ?_, HI.out.bel.trans KB⟩
      rw [HU.out]
      unfold rdS
      rw [if_pos hk, ← i64S_wrap hu64]
      rfl
    | false =>
      go_wp2_with fail
      refine ⟨by simp, .inl ⟨_, _, rfl, run_takeDeferred hK, ?_⟩⟩
      refine ⟨_, results_tmp rfl _ _ _, ?_, HI.out.bel.trans KB⟩
      rw [HU.out]
      unfold rdS
      rw [if_neg (by rw [hk]; decide), ← sign64 hb1 hb64 hun]
      rfl
  case stop => exact fun D c' pre W hD hxs hi hK => hi.elim
end Go.Proofs.Ytcggghamnmflcaa
namespace Go.Proofs.Ytcggghamnmflcaa
open Go Go.RowKit Go.Shelf
/-- Which error a path meets; the spot it leads to. -/
def findE (d : Nat) (t : Tp d) (p : List Int) : Int := if errS d t = 0 then (if (walkS d t 0 0 p).isSome = true then 0 else 110) else errS d t
def spotS (d : Nat) (t : Tp d) (p : List Int) : Spt := if errS d t = 0 then (match walkS d t 0 0 p with | some (s, _) => s | none => ⟨0, 0, 0⟩) else ⟨0, 0, 0⟩
def stpsS (d : Nat) (t : Tp d) (p : List Int) : List Stp := if errS d t = 0 then (match walkS d t 0 0 p with | some (_, us) => us | none => []) else []
theorem find_no {d : Nat} {t : Tp d} {p : List Int} (h : errS d t ≠ 0) : findE d t p = errS d t ∧ spotS d t p = ⟨0, 0, 0⟩ ∧ stpsS d t p = [] := by
  unfold findE spotS stpsS
  rw [if_neg h, if_neg h, if_neg h]
  exact ⟨rfl, rfl, rfl⟩
theorem find_none {d : Nat} {t : Tp d} {p : List Int} (h : errS d t = 0) (hw : walkS d t 0 0 p = none) : findE d t p = 110 ∧ spotS d t p = ⟨0, 0, 0⟩ ∧ stpsS d t p = [] := by
  unfold findE spotS stpsS
  rw [if_pos h, if_pos h, if_pos h, hw]
  exact ⟨rfl, rfl, rfl⟩
theorem find_some {d : Nat} {t : Tp d} {p : List Int} {s : Spt} {us : List Stp} (h : errS d t = 0) (hw : walkS d t 0 0 p = some (s, us)) : findE d t p = 0 ∧ spotS d t p = s ∧ stpsS d t p = us := by
  unfold findE spotS stpsS
  rw [if_pos h, if_pos h, if_pos h, hw]
  exact ⟨rfl, rfl, rfl⟩
theorem results95 {tmps : Array Value} {W : World} {g : Nat} {v0 v1 v2 v3 v : Value} (h4 : tmps.getD 4 undef = .pointer (some ⟨g, 0, none⟩)) (h5 : tmps.getD 5 undef = v) (h : Bk W g 119 #[v0, v1, v2, v3]) :
    (results Try.f95 tmps).run Try.prog W = .ok (.tuple #[.agg #[v0, v1, v2, v3], v]) W := by
  have c0 : W.cell? ⟨g, 0, none⟩ = some v0 := h.at_ (i := 0) rfl
  have c1 : W.cell? ⟨g, 1, none⟩ = some v1 := h.at_ (i := 1) rfl
  have c2 : W.cell? ⟨g, 2, none⟩ = some v2 := h.at_ (i := 2) rfl
  have c3 : W.cell? ⟨g, 3, none⟩ = some v3 := h.at_ (i := 3) rfl
  rw [Array.getD_eq_getD_getElem?] at h4 h5
  simp [results, Try.results95, go_sem, h4, h5, c0, c1, c2, c3]
theorem results57 {tmps : Array Value} {W : World} {g : Nat} {v0 v1 v2 v : Value} (h4 : tmps.getD 4 undef = .pointer (some ⟨g, 0, none⟩)) (h5 : tmps.getD 5 undef = v) (h : Bk W g 48 #[v0, v1, v2]) :
    (results Try.f57 tmps).run Try.prog W = .ok (.tuple #[.agg #[v0, v1, v2], v]) W := by
  have c0 : W.cell? ⟨g, 0, none⟩ = some v0 := h.at_ (i := 0) rfl
  have c1 : W.cell? ⟨g, 1, none⟩ = some v1 := h.at_ (i := 1) rfl
  have c2 : W.cell? ⟨g, 2, none⟩ = some v2 := h.at_ (i := 2) rfl
  rw [Array.getD_eq_getD_getElem?] at h4 h5
  simp [results, Try.results57, go_sem, h4, h5, c0, c1, c2]
theorem results96 {tmps : Array Value} {W : World} {g : Nat} {v0 v1 v2 v3 v : Value} (h4 : tmps.getD 6 undef = .pointer (some ⟨g, 0, none⟩)) (h5 : tmps.getD 7 undef = v) (h : Bk W g 119 #[v0, v1, v2, v3]) :
    (results Try.f96 tmps).run Try.prog W = .ok (.tuple #[.agg #[v0, v1, v2, v3], v]) W := by
  have c0 : W.cell? ⟨g, 0, none⟩ = some v0 := h.at_ (i := 0) rfl
  have c1 : W.cell? ⟨g, 1, none⟩ = some v1 := h.at_ (i := 1) rfl
  have c2 : W.cell? ⟨g, 2, none⟩ = some v2 := h.at_ (i := 2) rfl
  have c3 : W.cell? ⟨g, 3, none⟩ = some v3 := h.at_ (i := 3) rfl
  rw [Array.getD_eq_getD_getElem?] at h4 h5
  simp [results, Try.results96, go_sem, h4, h5, c0, c1, c2, c3]
/-- Four cells of a result set. -/
theorem fin4 {W : World} {g : Nat} {T : TypeId} {u0 u1 u2 u3 : Value} (h : Bk W g T #[u0, u1, u2, u3]) (v0 v1 v2 v3 : Value) : Bk ((((W.setCell ⟨g, 0, none⟩ v0).setCell ⟨g, 1, none⟩ v1).setCell ⟨g, 2, none⟩ v2).setCell ⟨g, 3, none⟩ v3) g T #[v0, v1, v2, v3] := by
  have e := (((h.set_ 0 v0).set_ 1 v1).set_ 2 v2).set_ 3 v3
  simp only [List.setIfInBounds_toArray, List.set_cons_zero, List.set_cons_succ] at e
  exact e
theorem fin4b {w W : World} {g : Nat} (h : Below w.heap.size w W) (hg : w.heap.size ≤ g) (v0 v1 v2 v3 : Value) : Below w.heap.size w ((((W.setCell ⟨g, 0, none⟩ v0).setCell ⟨g, 1, none⟩ v1).setCell ⟨g, 2, none⟩ v2).setCell ⟨g, 3, none⟩ v3) :=
  (((h.setCell (p := ⟨g, 0, none⟩) hg _).setCell (p := ⟨g, 1, none⟩) hg _).setCell (p := ⟨g, 2, none⟩) hg _).setCell (p := ⟨g, 3, none⟩) hg _
theorem fin4s {base : Nat} {W : World} {A : Option Addr} {n : Nat} {l : List Stp} (h : StpsF base W A n l) {g : Nat} (hg : g < base) (v0 v1 v2 v3 : Value) : StpsF base ((((W.setCell ⟨g, 0, none⟩ v0).setCell ⟨g, 1, none⟩ v1).setCell ⟨g, 2, none⟩ v2).setCell ⟨g, 3, none⟩ v3) A n l :=
  (((h.set_ hg 0 v0).set_ hg 1 v1).set_ hg 2 v2).set_ hg 3 v3
theorem fin3 {W : World} {g : Nat} {T : TypeId} {u0 u1 u2 : Value} (h : Bk W g T #[u0, u1, u2]) (v0 v1 v2 : Value) : Bk (((W.setCell ⟨g, 0, none⟩ v0).setCell ⟨g, 1, none⟩ v1).setCell ⟨g, 2, none⟩ v2) g T #[v0, v1, v2] := by
  have e := ((h.set_ 0 v0).set_ 1 v1).set_ 2 v2
  simp only [List.setIfInBounds_toArray, List.set_cons_zero, List.set_cons_succ] at e
  exact e
theorem fin3b {w W : World} {g : Nat} (h : Below w.heap.size w W) (hg : w.heap.size ≤ g) (v0 v1 v2 : Value) : Below w.heap.size w (((W.setCell ⟨g, 0, none⟩ v0).setCell ⟨g, 1, none⟩ v1).setCell ⟨g, 2, none⟩ v2) :=
  ((h.setCell (p := ⟨g, 0, none⟩) hg _).setCell (p := ⟨g, 1, none⟩) hg _).setCell (p := ⟨g, 2, none⟩) hg _
def FindP (d : Nat) (t : Tp d) (p : List Int) (w : World) (e : Ending) (w' : World) : Prop :=
  ∃ (B : Option Addr) (k c' : Nat), e = .returned (.tuple #[.agg #[.int .i64 (spotS d t p).bit, .int .i64 (spotS d t p).bits, .int .i64 (spotS d t p).k, .slice B k c'], .int .i64 (findE d t p)]) ∧ StpsF w.heap.size w' B k (stpsS d t p) ∧ Below w.heap.size w w'
theorem StpsF.nil (base : Nat) (w : World) : StpsF base w none 0 [] := ⟨⟨rfl, fun i s h => by simp at h⟩, fun a ha => by cases ha⟩
theorem FindP.mk {d : Nat} {t : Tp d} {p : List Int} {w w' : World} {sp : Spt} {fe : Int} {us : List Stp} {B : Option Addr} {k c' : Nat} (h1 : spotS d t p = sp) (h2 : findE d t p = fe) (h3 : stpsS d t p = us) (hs : StpsF w.heap.size w' B k us) (hb : Below w.heap.size w w') :
    FindP d t p w (.returned (.tuple #[.agg #[.int .i64 sp.bit, .int .i64 sp.bits, .int .i64 sp.k, .slice B k c'], .int .i64 fe])) w' := by
  subst h1 h2 h3
  exact ⟨B, k, c', rfl, hs, hb⟩
set_option maxRecDepth 100000 in
set_option maxHeartbeats 2000000 in
theorem find_c {d : Nat} {t : Tp d} {v0 v1 v2 v3 v4 v5 v6 : Value} (A : Option Addr) (p : List Int) (c : Nat) (w : World) (ht : TyAt w d t [v0, v1, v2, v3, v4, v5, v6]) (hP : IntsAt w A p.length p) (hc1 : p.length ≤ c) (hc2 : c ≤ 9223372036854775807) :
    Calls Try.prog 95 #[.agg #[v0, v1, v2, v3, v4, v5, v6], .slice A p.length c] w (FindP d t p w) := by
  have HR := Lib.hid (fun w' (hb : Below w.heap.size w w') => right_c (ht.below hb))
  have HT := Lib.hid ht
  have HP := Lib.hid hP
  obtain ⟨sp, hsp⟩ : ∃ x, spotS d t p = x := ⟨_, rfl⟩
  obtain ⟨fe, hfe⟩ : ∃ x, findE d t p = x := ⟨_, rfl⟩
  obtain ⟨us, hus⟩ : ∃ x, stpsS d t p = x := ⟨_, rfl⟩
  obtain ⟨er, her⟩ : ∃ x, errS d t = x := ⟨_, rfl⟩
  rw [her] at HR
  have HSP := Lib.hid hsp
  have HFE := Lib.hid hfe
  have HUS := Lib.hid hus
  have HER := Lib.hid her
  clear hsp hfe hus her ht hP
  go_enter Try.func95, Try.ntmps95
  go_upto_region 1 with (fail)
  have hT := (Bk.new w 38 #[v0, v1, v2, v3, v4, v5, v6]).alloc (.cells #[.int .i64 0, .int .i64 0, .int .i64 0, .slice none 0 0] 119)
  have h4 := Bk.new1 w (.cells #[v0, v1, v2, v3, v4, v5, v6] 38) 119 #[.int .i64 0, .int .i64 0, .int .i64 0, .slice none 0 0]
  have hb0 := bel_alloc (bel_alloc (Below.refl _ w) (.cells #[v0, v1, v2, v3, v4, v5, v6] 38)) (.cells #[.int .i64 0, .int .i64 0, .int .i64 0, .slice none 0 0] 119)
  generalize World.alloc (World.alloc w _) _ = W0 at hT h4 hb0 ⊢
  have t0 := hT.at_ (i := 0) rfl; have t1 := hT.at_ (i := 1) rfl; have t2 := hT.at_ (i := 2) rfl; have t3 := hT.at_ (i := 3) rfl; have t4 := hT.at_ (i := 4) rfl; have t5 := hT.at_ (i := 5) rfl; have t6 := hT.at_ (i := 6) rfl
  go_wp2_with fail
  refine (HR.out _ hb0).mono ?_
  rintro e w1 ⟨rfl, hb1⟩
  have hT1 := hT.below hb1 hT.lt
  have h41 := h4.below hb1 h4.lt
  have HB1 := Lib.hid (bel_then hb0 hb1)
  clear t0 t1 t2 t3 t4 t5 t6 hb0 hb1 hT h4
  by_cases he : er = 0
  · subst he
    obtain ⟨q1, q2⟩ := err_0 HER.out
    have HF := Lib.hid (follow_c A p c w1 q1 q2 (HT.out.below HB1.out) (HP.out.below HB1.out) hc1 hc2)
    have t0 := hT1.at_ (i := 0) rfl; have t1 := hT1.at_ (i := 1) rfl; have t2 := hT1.at_ (i := 2) rfl; have t3 := hT1.at_ (i := 3) rfl; have t4 := hT1.at_ (i := 4) rfl; have t5 := hT1.at_ (i := 5) rfl; have t6 := hT1.at_ (i := 6) rfl
    clear q1 q2
    go_wp2_with fail
    refine HF.out.mono ?_
    rintro e w2 ⟨s, B, k, c', rfl, hw, hb2⟩
    have h42 := h41.below hb2 h41.lt
    have hl4 := h41.lt
    have HW := Lib.hid hw
    have HB2 := Lib.hid (bel_then HB1.out hb2)
    clear t0 t1 t2 t3 t4 t5 t6 hT1 h41 hw
    cases hws : walkS d t 0 0 p with
    | none =>
      obtain ⟨e1, e2, e3⟩ := find_none HER.out hws
      obtain rfl : fe = 110 := HFE.out.symm.trans e1
      obtain rfl : sp = ⟨0, 0, 0⟩ := HSP.out.symm.trans e2
      obtain rfl : us = [] := HUS.out.symm.trans e3
      have h43 := h42.alloc (.cells #[.int .i64 s.bit, .int .i64 s.bits, .int .i64 s.k, .slice B k c'] 119)
      have hb3 := bel_alloc HB2.out (.cells #[.int .i64 s.bit, .int .i64 s.bits, .int .i64 s.k, .slice B k c'] 119)
      go_upto_region 5 with (fail)
      generalize World.alloc w2 _ = W3 at h43 hb3 ⊢
      have f40 := h43.frozen 0; have f41 := h43.frozen 1; have f42 := h43.frozen 2; have f43 := h43.frozen 3
      have u40 := h43.at_ (i := 0) rfl; have u41 := h43.at_ (i := 1) rfl; have u42 := h43.at_ (i := 2) rfl; have u43 := h43.at_ (i := 3) rfl
      go_wp2_with fail
      exact bodyPost_ret (results95 rfl rfl (fin4 h43 _ _ _ _)) rfl (FindP.mk (sp := ⟨0, 0, 0⟩) HSP.out HFE.out HUS.out (StpsF.nil _ _) (fin4b hb3 (by omega) _ _ _ _))
    | some r =>
      obtain ⟨s', us'⟩ := r
      obtain ⟨e1, e2, e3⟩ := find_some HER.out hws
      obtain ⟨rfl, hst⟩ := HW.out s' us' hws
      obtain rfl : fe = 0 := HFE.out.symm.trans e1
      obtain rfl : sp = s := HSP.out.symm.trans e2
      obtain rfl : us = us' := HUS.out.symm.trans e3
      have h43 := h42.alloc (.cells #[.int .i64 sp.bit, .int .i64 sp.bits, .int .i64 sp.k, .slice B k c'] 119)
      have h7 := Bk.new w2 119 #[.int .i64 sp.bit, .int .i64 sp.bits, .int .i64 sp.k, .slice B k c']
      have hb3 := bel_alloc HB2.out (.cells #[.int .i64 sp.bit, .int .i64 sp.bits, .int .i64 sp.k, .slice B k c'] 119)
      have hst3 := hst.below (bel_alloc (Below.refl _ w2) (.cells #[.int .i64 sp.bit, .int .i64 sp.bits, .int .i64 sp.k, .slice B k c'] 119))
      go_upto_region 5 with (fail)
      generalize World.alloc w2 _ = W3 at h43 h7 hb3 hst3 ⊢
      have f40 := h43.frozen 0; have f41 := h43.frozen 1; have f42 := h43.frozen 2; have f43 := h43.frozen 3
      have u40 := h43.at_ (i := 0) rfl; have u41 := h43.at_ (i := 1) rfl; have u42 := h43.at_ (i := 2) rfl; have u43 := h43.at_ (i := 3) rfl
      have u70 := h7.at_ (i := 0) rfl; have u71 := h7.at_ (i := 1) rfl; have u72 := h7.at_ (i := 2) rfl; have u73 := h7.at_ (i := 3) rfl
      have HST := Lib.hid hst3
      clear hst hst3
      go_wp2_with fail
      exact bodyPost_ret (results95 rfl rfl (fin4 h43 _ _ _ _)) rfl (FindP.mk HSP.out HFE.out HUS.out ((fin4s HST.out hl4 _ _ _ _).mono (by have := HB1.out.size; omega)) (fin4b hb3 (by omega) _ _ _ _))
  · have hn : (er != 0) = true := by simpa using he
    obtain ⟨e1, e2, e3⟩ := find_no (p := p) (show errS d t ≠ 0 by rw [HER.out]; exact he)
    obtain rfl : fe = er := HFE.out.symm.trans (e1.trans HER.out)
    obtain rfl : sp = ⟨0, 0, 0⟩ := HSP.out.symm.trans e2
    obtain rfl : us = [] := HUS.out.symm.trans e3
    have f40 := h41.frozen 0; have f41 := h41.frozen 1; have f42 := h41.frozen 2; have f43 := h41.frozen 3
    have u40 := h41.at_ (i := 0) rfl; have u41 := h41.at_ (i := 1) rfl; have u42 := h41.at_ (i := 2) rfl; have u43 := h41.at_ (i := 3) rfl
    go_wp2_with fail
    exact bodyPost_ret (results95 rfl rfl (fin4 h41 _ _ _ _)) rfl (FindP.mk (sp := ⟨0, 0, 0⟩) HSP.out HFE.out HUS.out (StpsF.nil _ _) (fin4b HB1.out (by omega) _ _ _ _))
def SpotP (d : Nat) (t : Tp d) (p : List Int) (w : World) (e : Ending) (w' : World) : Prop :=
  e = .returned (.tuple #[.agg #[.int .i64 (spotS d t p).bit, .int .i64 (spotS d t p).bits, .int .i64 (spotS d t p).k], .int .i64 (findE d t p)]) ∧ Below w.heap.size w w'
set_option maxRecDepth 100000 in
set_option maxHeartbeats 2000000 in
theorem spot_c {d : Nat} {t : Tp d} {v0 v1 v2 v3 v4 v5 v6 : Value} (A : Option Addr) (p : List Int) (c : Nat) (w : World) (ht : TyAt w d t [v0, v1, v2, v3, v4, v5, v6]) (hP : IntsAt w A p.length p) (hc1 : p.length ≤ c) (hc2 : c ≤ 9223372036854775807) :
    Calls Try.prog 57 #[.agg #[v0, v1, v2, v3, v4, v5, v6], .slice A p.length c] w (SpotP d t p w) := by
  have HF := Lib.hid (fun w' (hb : Below w.heap.size w w') => find_c A p c w' (ht.below hb) (hP.below hb) hc1 hc2)
  clear ht hP
  go_enter Try.func57, Try.ntmps57
  go_upto_region 1 with (fail)
  have hT := (Bk.new w 38 #[v0, v1, v2, v3, v4, v5, v6]).alloc (.cells #[.int .i64 0, .int .i64 0, .int .i64 0] 48)
  have h4 := Bk.new1 w (.cells #[v0, v1, v2, v3, v4, v5, v6] 38) 48 #[.int .i64 0, .int .i64 0, .int .i64 0]
  have hb0 := bel_alloc (bel_alloc (Below.refl _ w) (.cells #[v0, v1, v2, v3, v4, v5, v6] 38)) (.cells #[.int .i64 0, .int .i64 0, .int .i64 0] 48)
  generalize World.alloc (World.alloc w _) _ = W0 at hT h4 hb0 ⊢
  have t0 := hT.at_ (i := 0) rfl; have t1 := hT.at_ (i := 1) rfl; have t2 := hT.at_ (i := 2) rfl; have t3 := hT.at_ (i := 3) rfl; have t4 := hT.at_ (i := 4) rfl; have t5 := hT.at_ (i := 5) rfl; have t6 := hT.at_ (i := 6) rfl
  go_wp2_with fail
  refine (HF.out _ hb0).mono ?_
  rintro e w1 ⟨B, k, c', rfl, -, hb1⟩
  obtain ⟨sp, hsp⟩ : ∃ x, spotS d t p = x := ⟨_, rfl⟩
  obtain ⟨fe, hfe⟩ : ∃ x, findE d t p = x := ⟨_, rfl⟩
  rw [hsp, hfe]
  have HSP := Lib.hid hsp
  have HFE := Lib.hid hfe
  have h41 := (h4.below hb1 h4.lt).alloc (.cells #[.int .i64 sp.bit, .int .i64 sp.bits, .int .i64 sp.k, .slice B k c'] 119)
  have h6 := Bk.new w1 119 #[.int .i64 sp.bit, .int .i64 sp.bits, .int .i64 sp.k, .slice B k c']
  have hb2 := bel_alloc (bel_then hb0 hb1) (.cells #[.int .i64 sp.bit, .int .i64 sp.bits, .int .i64 sp.k, .slice B k c'] 119)
  clear t0 t1 t2 t3 t4 t5 t6 hb0 hb1 hT h4 hsp hfe
  go_upto_region 2 with (fail)
  generalize World.alloc w1 _ = W3 at h41 h6 hb2 ⊢
  have f40 := h41.frozen 0; have f41 := h41.frozen 1; have f42 := h41.frozen 2
  have u40 := h41.at_ (i := 0) rfl; have u41 := h41.at_ (i := 1) rfl; have u42 := h41.at_ (i := 2) rfl
  have u70 := h6.at_ (i := 0) rfl; have u71 := h6.at_ (i := 1) rfl; have u72 := h6.at_ (i := 2) rfl
  go_wp2_with fail
  refine bodyPost_ret (results57 rfl rfl (fin3 h41 _ _ _)) rfl ?_
  unfold SpotP
  rw [HSP.out, HFE.out]
  exact ⟨rfl, fin3b hb2 (by omega) _ _ _⟩
def sizedE (d : Nat) (t : Tp d) (n : Nat) (p : List Int) : Int := if findE d t p = 0 then (if (n : Int) = szS d t then 0 else 2) else findE d t p
def sizedS (d : Nat) (t : Tp d) (n : Nat) (p : List Int) : Spt := if sizedE d t n p = 0 then spotS d t p else ⟨0, 0, 0⟩
def SizP (d : Nat) (t : Tp d) (n : Nat) (p : List Int) (w : World) (e : Ending) (w' : World) : Prop :=
  ∃ (B : Option Addr) (k c' : Nat), e = .returned (.tuple #[.agg #[.int .i64 (sizedS d t n p).bit, .int .i64 (sizedS d t n p).bits, .int .i64 (sizedS d t n p).k, .slice B k c'], .int .i64 (sizedE d t n p)]) ∧ Below w.heap.size w w'
theorem SizP.mk {d : Nat} {t : Tp d} {n : Nat} {p : List Int} {w w' : World} {sp : Spt} {fe : Int} {B : Option Addr} {k c' : Nat} (h1 : sizedS d t n p = sp) (h2 : sizedE d t n p = fe) (hb : Below w.heap.size w w') :
    SizP d t n p w (.returned (.tuple #[.agg #[.int .i64 sp.bit, .int .i64 sp.bits, .int .i64 sp.k, .slice B k c'], .int .i64 fe])) w' := by
  subst h1 h2
  exact ⟨B, k, c', rfl, hb⟩
theorem sized_no {d : Nat} {t : Tp d} {n : Nat} {p : List Int} (h : sizedE d t n p ≠ 0) : sizedS d t n p = ⟨0, 0, 0⟩ := by unfold sizedS; rw [if_neg h]
set_option maxRecDepth 100000 in
set_option maxHeartbeats 2000000 in
theorem sized_c {d : Nat} {t : Tp d} {v0 v1 v2 v3 v4 v5 v6 : Value} (A : Option Addr) (p : List Int) (c : Nat) (str : ByteArray) (w : World) (ht : TyAt w d t [v0, v1, v2, v3, v4, v5, v6]) (hP : IntsAt w A p.length p) (hc1 : p.length ≤ c) (hc2 : c ≤ 9223372036854775807) (_hstr : str.size ≤ 9223372036854775807) :
    Calls Try.prog 96 #[.agg #[v0, v1, v2, v3, v4, v5, v6], .string str, .slice A p.length c] w (SizP d t str.size p w) := by
  have HF := Lib.hid (fun w' (hb : Below w.heap.size w w') => find_c A p c w' (ht.below hb) (hP.below hb) hc1 hc2)
  have HS := Lib.hid (fun w' (hb : Below w.heap.size w w') => ssize_c (ht.below hb))
  obtain ⟨n, hn⟩ : ∃ n, str.size = n := ⟨_, rfl⟩
  rw [hn] at _hstr ⊢
  clear ht hP
  go_enter Try.func96, Try.ntmps96
  go_upto_region 1 with (fail)
  have hT := (Bk.new w 38 #[v0, v1, v2, v3, v4, v5, v6]).alloc (.cells #[.int .i64 0, .int .i64 0, .int .i64 0, .slice none 0 0] 119)
  have h4 := Bk.new1 w (.cells #[v0, v1, v2, v3, v4, v5, v6] 38) 119 #[.int .i64 0, .int .i64 0, .int .i64 0, .slice none 0 0]
  have hb0 := bel_alloc (bel_alloc (Below.refl _ w) (.cells #[v0, v1, v2, v3, v4, v5, v6] 38)) (.cells #[.int .i64 0, .int .i64 0, .int .i64 0, .slice none 0 0] 119)
  generalize World.alloc (World.alloc w _) _ = W0 at hT h4 hb0 ⊢
  have t0 := hT.at_ (i := 0) rfl; have t1 := hT.at_ (i := 1) rfl; have t2 := hT.at_ (i := 2) rfl; have t3 := hT.at_ (i := 3) rfl; have t4 := hT.at_ (i := 4) rfl; have t5 := hT.at_ (i := 5) rfl; have t6 := hT.at_ (i := 6) rfl
  go_wp2_with fail
  refine (HF.out _ hb0).mono ?_
  rintro e w1 ⟨B, k, c', rfl, -, hb1⟩
  obtain ⟨sp, hsp⟩ : ∃ x, spotS d t p = x := ⟨_, rfl⟩
  obtain ⟨fe, hfe⟩ : ∃ x, findE d t p = x := ⟨_, rfl⟩
  rw [hsp, hfe]
  have HSP := Lib.hid hsp
  have HFE := Lib.hid hfe
  have hT1 := (hT.below hb1 hT.lt).alloc (.cells #[.int .i64 sp.bit, .int .i64 sp.bits, .int .i64 sp.k, .slice B k c'] 119)
  have h41 := (h4.below hb1 h4.lt).alloc (.cells #[.int .i64 sp.bit, .int .i64 sp.bits, .int .i64 sp.k, .slice B k c'] 119)
  have h6 := Bk.new w1 119 #[.int .i64 sp.bit, .int .i64 sp.bits, .int .i64 sp.k, .slice B k c']
  have hb2 := bel_alloc (bel_then hb0 hb1) (.cells #[.int .i64 sp.bit, .int .i64 sp.bits, .int .i64 sp.k, .slice B k c'] 119)
  clear t0 t1 t2 t3 t4 t5 t6 hb0 hb1 hT h4 hsp hfe
  go_upto_region 2 with (fail)
  generalize World.alloc w1 _ = W3 at hT1 h41 h6 hb2 ⊢
  by_cases he : fe = 0
  · subst he
    have t0 := hT1.at_ (i := 0) rfl; have t1 := hT1.at_ (i := 1) rfl; have t2 := hT1.at_ (i := 2) rfl; have t3 := hT1.at_ (i := 3) rfl; have t4 := hT1.at_ (i := 4) rfl; have t5 := hT1.at_ (i := 5) rfl; have t6 := hT1.at_ (i := 6) rfl
    go_wp2_with fail
    refine (HS.out _ hb2).mono ?_
    rintro e w4 ⟨rfl, hb4⟩
    have h42 := h41.below hb4 h41.lt
    have h62 := h6.below hb4 h6.lt
    have HB4 := Lib.hid (bel_then hb2 hb4)
    clear t0 t1 t2 t3 t4 t5 t6 hb2 hb4 h41 h6 hT1
    have f40 := h42.frozen 0; have f41 := h42.frozen 1; have f42 := h42.frozen 2; have f43 := h42.frozen 3
    have u40 := h42.at_ (i := 0) rfl; have u41 := h42.at_ (i := 1) rfl; have u42 := h42.at_ (i := 2) rfl; have u43 := h42.at_ (i := 3) rfl
    have u70 := h62.at_ (i := 0) rfl; have u71 := h62.at_ (i := 1) rfl; have u72 := h62.at_ (i := 2) rfl; have u73 := h62.at_ (i := 3) rfl
    obtain ⟨sz, hsz⟩ : ∃ x, szS d t = x := ⟨_, rfl⟩
    rw [hsz]
    have HSZ := Lib.hid hsz
    have HN := Lib.hid hn
    clear hsz
    by_cases hns : (n : Int) = sz
    · have HE := Lib.hid (show sizedE d t n p = 0 by unfold sizedE; rw [if_pos HFE.out, HSZ.out, if_pos hns])
      have HSS := Lib.hid (show sizedS d t n p = sp by unfold sizedS; rw [if_pos HE.out, HSP.out])
      have hd : ((n : Int) != sz) = false := by simpa using hns
      clear hns
      go_wp2_with fail
      exact bodyPost_ret (results96 rfl rfl (fin4 h42 _ _ _ _)) rfl (SizP.mk HSS.out HE.out (fin4b HB4.out (by omega) _ _ _ _))
    · have HE := Lib.hid (show sizedE d t n p = 2 by unfold sizedE; rw [if_pos HFE.out, HSZ.out, if_neg hns])
      have HSS := Lib.hid (sized_no (d := d) (t := t) (n := n) (p := p) (by rw [HE.out]; decide))
      have hd : ((n : Int) != sz) = true := by simpa using hns
      clear hns
      go_wp2_with fail
      exact bodyPost_ret (results96 rfl rfl (fin4 h42 _ _ _ _)) rfl (SizP.mk (sp := ⟨0, 0, 0⟩) HSS.out HE.out (fin4b HB4.out (by omega) _ _ _ _))
  · have hne : (fe != 0) = true := by simpa using he
    have HE := Lib.hid (show sizedE d t n p = fe by unfold sizedE; rw [HFE.out, if_neg he])
    have HSS := Lib.hid (sized_no (d := d) (t := t) (n := n) (p := p) (by rw [HE.out]; exact he))
    have f40 := h41.frozen 0; have f41 := h41.frozen 1; have f42 := h41.frozen 2; have f43 := h41.frozen 3
    have u40 := h41.at_ (i := 0) rfl; have u41 := h41.at_ (i := 1) rfl; have u42 := h41.at_ (i := 2) rfl; have u43 := h41.at_ (i := 3) rfl
    go_wp2_with fail
    exact bodyPost_ret (results96 rfl rfl (fin4 h41 _ _ _ _)) rfl (SizP.mk (sp := ⟨0, 0, 0⟩) HSS.out HE.out (fin4b hb2 (by omega) _ _ _ _))
end Go.Proofs.Ytcggghamnmflcaa
namespace Go.Proofs.Ytcggghamnmflcaa
open Go Go.RowKit
theorem walk_leaf : ∀ (d : Nat) (t : Tp d) (fr dp : Int) (p : List Int) (s : Spt) (us : List Stp) (b : Bx), plainS d t 6 = true → boxS d t = some b → walkS d t fr dp p = some (s, us) → s ∈ leavesS d t fr
  | 0, t, _, _, _, _, _, _, _, _, _ => nomatch t
  | d + 1, t, fr, dp, p, s, us, b, hp, hb, hw => by
    obtain ⟨t', rfl⟩ : ∃ t' : Nd (Tp d), t' = t := ⟨t, rfl⟩
    have he := err_of hp (by omega) hb
    by_cases h12 : t'.sh = 1 ∨ t'.sh = 2
    · cases p with
      | cons i q => rw [walk_num_no h12 (by simp)] at hw; cases hw
      | nil =>
        rw [walk_num h12] at hw
        injection hw with hw
        injection hw with hs _
        subst hs
        show _ ∈ (if t'.sh = 1 then _ else if t'.sh = 2 then _ else _)
        have hbs : bsz (d + 1) t' = b.size := by unfold bsz; rw [he.2.1]
        rcases h12 with h | h
        · rw [if_pos h, if_neg (by omega)]
          have : b.size = ksize t'.k := by
            have hb' : (if t'.sh = 1 then some ({ size := ksize t'.k, align := ksize t'.k, l := [] } : Bx) else _) = some b := hb
            rw [if_pos h] at hb'
            cases hb'
            rfl
          rw [hbs, this]
          simp
        · rw [if_neg (by omega), if_pos h, if_pos h]
          have : b.size = 8 := by
            have hb' : (if t'.sh = 1 then _ else if t'.sh = 2 then some ({ size := 8, align := 8, l := [] } : Bx) else _) = some b := hb
            rw [if_neg (by omega), if_pos h] at hb'
            cases hb'
            rfl
          rw [hbs, this]
          simp
    · cases p with
      | nil => rw [walk_nil h12] at hw; cases hw
      | cons i q =>
        by_cases hi : i < 0
        · rw [walk_neg h12 hi] at hw; cases hw
        · by_cases h3 : t'.sh = 3
          · obtain ⟨x, bx, hof, _, _, n1, n2, px6, hbx, _, _, _⟩ := arr_parts h3 hp hb
            by_cases hn : t'.n ≤ i
            · rw [walk_arr_no h3 (by omega) hn] at hw; cases hw
            · rw [walk_arr h3 (by omega) (by omega) hof] at hw
              have ih := walk_leaf d x _ _ _ _ _ bx px6 hbx hw
              show _ ∈ (if t'.sh = 1 then _ else if t'.sh = 2 then _ else if t'.sh = 3 then (match t'.of with | [x] => (List.range t'.n.toNat).flatMap fun (i : Nat) => leavesS d x (fr + 8 * bsz d x * i) | _ => []) else _)
              rw [if_neg (by omega), if_neg (by omega), if_pos h3, hof]
              simp only
              refine List.mem_flatMap.2 ⟨i.toNat, List.mem_range.2 (by omega), ?_⟩
              rw [show ((i.toNat : Nat) : Int) = i by omega]
              exact ih
          · have hss : t'.sh = 4 ∨ t'.sh = 5 := by
              have h0 : plainS (d + 1) t' 6 = true := hp
              by_cases e4 : t'.sh = 4
              · exact .inl e4
              · by_cases e5 : t'.sh = 5
                · exact .inr e5
                · rw [show plainS (d + 1) t' 6 = _ from plain_else (fun h => h12 (.inl h)) (fun h => h12 (.inr h)) h3 e4 e5] at h0
                  cases h0
            have LR := liesR he.1 hss
            have hmL : memL (d + 1) t' = b.l := by unfold memL; rw [if_pos ⟨he.1, hss⟩, he.2.1]
            rw [hmL] at LR
            have hbl : (boxD (d + 1) t').l = b.l := by rw [he.2.1]
            cases hf : t'.fs[i.toNat]? with
            | none => rw [walk_cmp_far hss (by omega) (by simpa using hf)] at hw; cases hw
            | some f =>
              obtain ⟨x, hx⟩ : ∃ x, b.l[i.toNat]? = some x := ⟨_, List.getElem?_eq_getElem (by have := (List.getElem?_eq_some_iff.1 hf).1; have := LR.len; omega)⟩
              obtain ⟨_, _, _, _, _, pl5, _, bf, hl⟩ := LR.all i.toNat f x hf hx
              rw [walk_cmp hss (by omega) hf (by rw [hbl]; exact hx)] at hw
              show _ ∈ (if t'.sh = 1 then _ else if t'.sh = 2 then _ else if t'.sh = 3 then _ else (t'.fs.zip (boxD (d + 1) t').l).flatMap fun p => if p.1.bits = 0 then [] else if 0 < p.1.bits then [⟨fr + p.2.bit, p.1.bits, tk d p.1.t⟩] else leavesS d p.1.t (fr + p.2.bit))
              rw [if_neg (fun h => h12 (.inl h)), if_neg (fun h => h12 (.inr h)), if_neg h3, hbl]
              refine List.mem_flatMap.2 ⟨(f, x), List.mem_of_getElem? (zip_at hf hx), ?_⟩
              simp only
              by_cases h0 : f.bits = 0
              · rw [if_pos h0] at hw; cases hw
              · rw [if_neg h0] at hw ⊢
                by_cases hpos : 0 < f.bits
                · rw [if_pos hpos] at hw ⊢
                  cases q with
                  | cons => cases hw
                  | nil =>
                    injection hw with hw
                    injection hw with hs _
                    subst hs
                    have e1 := hl.bits
                    rw [if_neg (by omega)] at e1
                    rw [e1, hl.k]
                    simp
                · rw [if_neg hpos] at hw ⊢
                  cases hr : walkS d f.t (fr + x.bit) (dp + 1) q with
                  | none => rw [hr] at hw; cases hw
                  | some r =>
                    obtain ⟨s1, us1⟩ := r
                    rw [hr] at hw
                    injection hw with hw
                    injection hw with hs _
                    subst hs
                    exact walk_leaf d f.t _ _ _ _ _ bf (plain_mono d f.t _ _ pl5 (by omega)) hl.bx hr
theorem walk_rng {d : Nat} {t : Tp d} {fr dp : Int} {p : List Int} {s : Spt} {us : List Stp} {b : Bx} (hp : plainS d t 6 = true) (hb : boxS d t = some b) (hw : walkS d t fr dp p = some (s, us)) : fr ≤ s.bit ∧ 1 ≤ s.bits ∧ s.bits ≤ 64 ∧ s.bit + s.bits ≤ fr + 8 * b.size :=
  leaves_rng d t fr b hp hb s (walk_leaf d t fr dp p s us b hp hb hw)
end Go.Proofs.Ytcggghamnmflcaa
namespace Go.Proofs.Ytcggghamnmflcaa
open Go Go.RowKit Go.Shelf
/-- A text's bytes, as numbers. -/
def byN (s : ByteArray) : List Nat := s.data.toList.map (·.toNat)
def ofN (l : List Nat) : ByteArray := ⟨(l.map UInt8.ofNat).toArray⟩
theorem byN_len (s : ByteArray) : (byN s).length = s.size := by unfold byN; rw [List.length_map]; rfl
theorem byN_lt (s : ByteArray) : ∀ x ∈ byN s, x < 256 := fun x hx => by
  unfold byN at hx
  obtain ⟨b, _, rfl⟩ := List.mem_map.1 hx
  exact b.toNat_lt
theorem ofN_len (l : List Nat) : (ofN l).size = l.length := by unfold ofN; show (l.map UInt8.ofNat).toArray.size = _; simp
theorem byN_ofN {l : List Nat} (h : ∀ x ∈ l, x < 256) : byN (ofN l) = l := by
  unfold byN ofN
  simp only [List.map_map]
  conv => rhs; rw [← List.map_id l]
  apply List.map_congr_left
  intro x hx
  simp only [Function.comp_apply, id_eq]
  exact UInt8.toNat_ofNat_of_lt' (h x hx)
theorem ofN_byN (s : ByteArray) : ofN (byN s) = s := by
  unfold byN ofN
  rw [List.map_map, show (UInt8.ofNat ∘ fun (x : UInt8) => x.toNat) = id from funext fun x => by simp, List.map_id]
/-- '[]byte(s)'. -/
theorem conv_bytes (w : World) (s : ByteArray) : ∃ cap W', (convert 9 75 (.string s)).run Try.prog w = .ok (.slice (some ⟨w.heap.size, 0, none⟩) s.size cap) W' ∧ (∃ rest, ByA W' w.heap.size (byN s) rest) ∧ Below w.heap.size w W' := by
  have h := run_bytes_of_string (P := Try.prog) w 9 75 5 s Try.underlying9 Try.underlying75 Try.underlying5
  refine ⟨_, _, h, ⟨List.replicate (grownCap w s.size 0 5 - s.size) (Value.int .u8 0), (bytesRow s (grownCap w s.size 0 5)).size, (bytesRow s (grownCap w s.size 0 5)).size + 1, ?_, ?_⟩, bel_alloc (bel_drew (Below.refl _ _)) _⟩
  · have e : bytesRow s (grownCap w s.size 0 5) = (byC (byN s) ++ List.replicate (grownCap w s.size 0 5 - s.size) (Value.int .u8 0)).toArray := by
      unfold bytesRow byC byN
      apply Array.ext'
      simp
    have hn := heap_alloc_new w.drew (.cells (bytesRow s (grownCap w s.size 0 5)) 5 ((bytesRow s (grownCap w s.size 0 5)).size, (bytesRow s (grownCap w s.size 0 5)).size + 1))
    rw [← e]
    exact hn
  · right
    unfold bytesRow
    rw [byN_len, Array.size_append, Array.size_map]
    show s.data.size ≤ _
    omega
def getV (d : Nat) (t : Tp d) (s : ByteArray) (p : List Int) : Int :=
  if sizedE d t s.size p = 0 then rdS (rdN (byN s) (spotS d t p).bit.toNat (spotS d t p).bits.toNat) (spotS d t p).bits.toNat (spotS d t p).k else 0
def GetP (d : Nat) (t : Tp d) (s : ByteArray) (p : List Int) (w : World) (e : Ending) (w' : World) : Prop :=
  e = .returned (.tuple #[.int .i64 (getV d t s p), .int .i64 (sizedE d t s.size p)]) ∧ Below w.heap.size w w'
/-- The spot that a path of a text that is long enough leads to. -/
theorem sized_0 {d : Nat} {t : Tp d} {n : Nat} {p : List Int} (h : sizedE d t n p = 0) : sizedS d t n p = spotS d t p ∧ (n : Int) = szS d t ∧ errS d t = 0 ∧
    ∃ bt bs : Nat, (spotS d t p).bit = (bt : Int) ∧ (spotS d t p).bits = (bs : Int) ∧ 1 ≤ bs ∧ bs ≤ 64 ∧ bt + bs ≤ 8 * n ∧ n ≤ 65536 := by
  have hs : sizedS d t n p = spotS d t p := by unfold sizedS; rw [if_pos h]
  unfold sizedE at h
  split at h
  · rename_i hf
    split at h
    · rename_i hn
      unfold findE at hf
      split at hf
      · rename_i he
        cases hw : walkS d t 0 0 p with
        | none => rw [hw] at hf; cases hf
        | some r =>
          obtain ⟨s, us⟩ := r
          obtain ⟨q1, q2⟩ := err_0 he
          obtain ⟨k1, k2, k3, k4⟩ := walk_rng q1 q2 hw
          have hz : szS d t = (boxD d t).size := by unfold szS; rw [if_pos he]
          have hok := (boxS_ok d t 6 _ q1 q2).2.1
          obtain ⟨_, e2, _⟩ := find_some he hw
          refine ⟨hs, hn, he, s.bit.toNat, s.bits.toNat, ?_, ?_, ?_, ?_, ?_, ?_⟩ <;> (try rw [e2]) <;> omega
      · rename_i he; exact absurd hf he
    · cases h
  · rename_i hf; exact absurd h hf
set_option maxRecDepth 100000 in
set_option maxHeartbeats 2000000 in
theorem get_c {d : Nat} {t : Tp d} {v0 v1 v2 v3 v4 v5 v6 : Value} (A : Option Addr) (p : List Int) (c : Nat) (s : ByteArray) (w : World) (ht : TyAt w d t [v0, v1, v2, v3, v4, v5, v6]) (hP : IntsAt w A p.length p) (hc1 : p.length ≤ c) (hc2 : c ≤ 9223372036854775807) (hs : s.size ≤ 9223372036854775807) :
    Calls Try.prog 59 #[.agg #[v0, v1, v2, v3, v4, v5, v6], .string s, .slice A p.length c] w (GetP d t s p w) := by
  have HF := Lib.hid (fun w' (hb : Below w.heap.size w w') => sized_c A p c s w' (ht.below hb) (hP.below hb) hc1 hc2 hs)
  clear ht hP
  go_enter Try.func59, Try.ntmps59
  go_upto_region 1 with (fail)
  have hT := Bk.new w 38 #[v0, v1, v2, v3, v4, v5, v6]
  have hb0 := bel_alloc (Below.refl _ w) (.cells #[v0, v1, v2, v3, v4, v5, v6] 38)
  generalize World.alloc w _ = W0 at hT hb0 ⊢
  have t0 := hT.at_ (i := 0) rfl; have t1 := hT.at_ (i := 1) rfl; have t2 := hT.at_ (i := 2) rfl; have t3 := hT.at_ (i := 3) rfl; have t4 := hT.at_ (i := 4) rfl; have t5 := hT.at_ (i := 5) rfl; have t6 := hT.at_ (i := 6) rfl
  go_wp2_with fail
  refine (HF.out _ hb0).mono ?_
  rintro e w1 ⟨B, k, c', rfl, hb1⟩
  obtain ⟨sp, hsp⟩ : ∃ x, sizedS d t s.size p = x := ⟨_, rfl⟩
  obtain ⟨fe, hfe⟩ : ∃ x, sizedE d t s.size p = x := ⟨_, rfl⟩
  rw [hsp, hfe]
  have HSP := Lib.hid hsp
  have HFE := Lib.hid hfe
  have h6 := Bk.new w1 119 #[.int .i64 sp.bit, .int .i64 sp.bits, .int .i64 sp.k, .slice B k c']
  have hb2 := bel_alloc (bel_then hb0 hb1) (.cells #[.int .i64 sp.bit, .int .i64 sp.bits, .int .i64 sp.k, .slice B k c'] 119)
  clear t0 t1 t2 t3 t4 t5 t6 hb0 hb1 hT hsp hfe
  go_upto_region 2 with (fail)
  generalize World.alloc w1 _ = W3 at h6 hb2 ⊢
  by_cases he : fe = 0
  · subst he
    obtain ⟨e1, e2, e3, bt, bs, e4, e5, e6, e7, e8, e9⟩ := sized_0 HFE.out
    have hsp' : spotS d t p = sp := by rw [← e1, HSP.out]
    have HGV := Lib.hid (show getV d t s p = rdS (rdN (byN s) bt bs) bs sp.k by
      unfold getV
      rw [if_pos HFE.out, e4, e5, Int.toNat_natCast, Int.toNat_natCast, hsp'])
    rw [hsp'] at e4 e5
    obtain ⟨cap, W4, hrun, ⟨rest, hby⟩, hb4⟩ := conv_bytes W3 s
    have h64 := h6.below hb4 h6.lt
    have u0 := h64.at_ (i := 0) rfl; have u1 := h64.at_ (i := 1) rfl; have u2 := h64.at_ (i := 2) rfl
    rw [e4] at u0
    rw [e5] at u1
    have hl := byN_len s
    have HRD := read_c W3.heap.size cap (byN s) rest bt bs sp.k W4 hby (byN_lt s) (by omega) (by omega) e6 e7
    rw [hl] at HRD
    have HRD := Lib.hid HRD
    have HB4 := Lib.hid (bel_then hb2 hb4)
    clear e1 e2 e3 e4 e5 e6 e7 e8 e9 hsp' hby hb4 h64 hl
    go_wp2_with fail
    refine HRD.out.mono ?_
    rintro e w5 ⟨rfl, hb5⟩
    have HB5 := Lib.hid (bel_then HB4.out hb5)
    clear hb5 hrun
    go_wp2_with fail
    go_ret2
    unfold GetP
    rw [HGV.out, HFE.out]
    exact ⟨rfl, HB5.out⟩
  · have hne : (fe != 0) = true := by simpa using he
    have HGV := Lib.hid (show getV d t s p = 0 by unfold getV; rw [if_neg (by rw [HFE.out]; exact he)])
    go_wp2_with fail
    go_ret2
    unfold GetP
    rw [HGV.out, HFE.out]
    exact ⟨rfl, hb2⟩
end Go.Proofs.Ytcggghamnmflcaa
namespace Go.Proofs.Ytcggghamnmflcaa
open Go Go.RowKit Go.Shelf
/-- A union's key: where it begins, its bytes, how deep it is. -/
structure Uky where
  from_ : Int
  size : Int
  deep : Int
deriving DecidableEq
def Uky.v (k : Uky) : Value := .agg #[.int .i64 k.from_, .int .i64 k.size, .int .i64 k.deep]
def eqU (a b c e f g : Int) : Bool := decide (a = e ∧ b = f ∧ c = g)
theorem eq123 (a b c e f g : Int) (w : World) : (Op.equalIn 10000 123 (.agg #[.int .i64 a, .int .i64 b, .int .i64 c]) (.agg #[.int .i64 e, .int .i64 f, .int .i64 g])).run Try.prog w = .ok (eqU a b c e f g) w := by
  have u3 := Try.underlying3
  have a3 := Try.isAgg3
  have z3 := Try.sizeOf3
  have u2 := Try.underlying2
  have a2 := Try.isAgg2
  have z2 := Try.sizeOf2
  have hS : Try.prog.underlying 123 = some (.struct (Try.prog.fieldsOf 123)) := by kernel_rfl
  have hp : Try.prog.stoodInHeld 123 = false := by kernel_rfl
  rw [show (10000 : Nat) = 9999 + 1 from rfl, run_equalIn_agg w 9999 123 _ _ hS hp]
  simp only [Program.fieldsOf, Try.underlying123]
  go_simp
  unfold eqU
  by_cases h1 : a = e <;> by_cases h2 : b = f <;> by_cases h3 : c = g <;> simp [h1, h2, h3]
theorem eq123k (x y : Uky) (w : World) : (Op.equal 123 x.v y.v).run Try.prog w = .ok (decide (x = y)) w := by
  have h := eq123 x.from_ x.size x.deep y.from_ y.size y.deep w
  have e : eqU x.from_ x.size x.deep y.from_ y.size y.deep = decide (x = y) := by
    unfold eqU
    cases x
    cases y
    simp
  rw [e] at h
  exact h
theorem check123 (b : Bool) (x : Uky) (w : World) : (Instr.checkKey b 10000 123 x.v).run Try.prog w = .ok () w := by
  have u3 := Try.underlying3
  have z3 := Try.sizeOf3
  have u2 := Try.underlying2
  have z2 := Try.sizeOf2
  have a3 := Try.isAgg3
  have a2 := Try.isAgg2
  unfold Uky.v
  rw [show (10000 : Nat) = 9998 + 1 + 1 from rfl]
  unfold Instr.checkKey
  simp only [run_underlying Try.underlying123, Sem.run_bind, Result.andThen]
  unfold Instr.checkKey
  go_simp
def findL : List (Uky × Int) → Uky → Nat → Option (Nat × Int)
  | [], _, _ => none
  | x :: l, k, i => if k = x.1 then some (i, x.2) else findL l k (i + 1)
def EncE (es : List MapEntry) (L : List (Uky × Int)) : Prop := es.map (fun e => (e.key, e.val)) = L.map fun x => (x.1.v, Value.int .i64 x.2)
theorem asking (k : Uky) (w : World) : ∀ (es : List MapEntry) (L : List (Uky × Int)) (i : Nat), EncE es L → (Instr.findAsking 123 k.v es i).run Try.prog w = .ok ((findL L k i).map fun r => (r.1, Value.int .i64 r.2)) w
  | [], [], _, _ => rfl
  | [], x :: L, _, h => by simp [EncE] at h
  | e :: es, [], _, h => by simp [EncE] at h
  | e :: es, x :: L, i, h => by
    unfold EncE at h
    simp only [List.map_cons, List.cons.injEq, Prod.mk.injEq] at h
    obtain ⟨⟨h1, h2⟩, h3⟩ := h
    unfold Instr.findAsking findL
    rw [h1, h2, Sem.run_bind, eq123k]
    simp only [Result.andThen]
    by_cases hk : k = x.1
    · simp [hk, Sem.run_pure]
    · simp only [hk, decide_false, if_false, Bool.false_eq_true]
      exact asking k w es L (i + 1) h3
theorem find_key (k : Uky) (w : World) (es : List MapEntry) (L : List (Uky × Int)) (h : EncE es L) : (Instr.findKey 123 k.v es).run Try.prog w = .ok ((findL L k 0).map fun r => (r.1, Value.int .i64 r.2)) w := by
  unfold Instr.findKey
  simp only [run_underlying Try.underlying123, Sem.run_bind, Result.andThen]
  cases es with
  | nil =>
    cases L with
    | nil => rfl
    | cons x L => simp [EncE] at h
  | cons e es =>
    unfold Instr.findNow
    have hn : ∀ d, (match d with | TypeDesc.struct _ => True | _ => False) → Instr.sameNow d k.v e.key = none := fun d hd => by
      cases d <;> first | exact hd.elim | rfl
    rw [hn _ trivial]
    exact asking k w (e :: es) L 0 h
def MapA (W : World) (m : Nat) (L : List (Uky × Int)) : Prop := ∃ (es : Array MapEntry) (clock : Nat), W.heap[m]? = some (.map es clock) ∧ EncE es.toList L
theorem lookup_run {W : World} {m : Nat} {L : List (Uky × Int)} (h : MapA W m L) (k : Uky) : (Instr.lookup 116 (.map (some m)) k.v true).run Try.prog W = .ok (.tuple #[.int .i64 ((findL L k 0).map (·.2) |>.getD 0), .bool (findL L k 0).isSome]) W := by
  obtain ⟨es, clock, h1, h2⟩ := h
  unfold Instr.lookup
  have hz : (zeroValue 3).run Try.prog W = .ok (.int .i64 0) W := by
    have u3 := Try.underlying3
    go_simp
  cases hf : findL L k 0 with
  | none =>
    have hk := find_key k W es.toList L h2
    rw [hf] at hk
    simp [run_underlying Try.underlying116, MapKept.run_getObj_map h1, check123, hk, hz, Result.andThen]
  | some r =>
    have hk := find_key k W es.toList L h2
    rw [hf] at hk
    simp [run_underlying Try.underlying116, MapKept.run_getObj_map h1, check123, hk, Result.andThen]
def updL (L : List (Uky × Int)) (k : Uky) (v : Int) : List (Uky × Int) := match findL L k 0 with
  | some (i, _) => L.set i (k, v)
  | none => L ++ [(k, v)]
theorem findL_at (k : Uky) : ∀ (L : List (Uky × Int)) (j i : Nat) (x : Int), findL L k j = some (i, x) → j ≤ i ∧ L[i - j]? = some (k, x)
  | [], _, _, _, h => by cases h
  | y :: L, j, i, x, h => by
    unfold findL at h
    split at h
    · rename_i hk
      cases h
      rw [Nat.sub_self]
      exact ⟨Nat.le_refl _, by rw [hk]; rfl⟩
    · obtain ⟨a, b⟩ := findL_at k L (j + 1) i x h
      refine ⟨by omega, ?_⟩
      rw [show i - j = (i - (j + 1)) + 1 by omega]
      simpa using b
theorem same_uky (k : Uky) : Instr.sameBits 10000 k.v k.v = true := by
  unfold Uky.v
  rw [show (10000 : Nat) = 9998 + 1 + 1 from rfl]
  simp [Instr.sameBits]
theorem upd_run {W : World} {m : Nat} {L : List (Uky × Int)} (h : MapA W m L) (k : Uky) (v : Int) : ∃ W', (Instr.mapUpdate 116 (.map (some m)) k.v (.int .i64 v)).run Try.prog W = .ok () W' ∧ MapA W' m (updL L k v) ∧ W.grownBy W' (some m) := by
  obtain ⟨es, clock, h1, h2⟩ := h
  have hml : m < W.heap.size := (Array.getElem?_eq_some_iff.1 h1).1
  have hk := find_key k W es.toList L h2
  have hg : ∀ o : Obj, W.grownBy (ChangeMaps.setBlock W m o) (some m) := fun o => ⟨rfl, rfl, rfl, by simp [ChangeMaps.setBlock], fun i _ hi => ChangeMaps.heap_setBlock_other h1 _ (fun e => hi (by rw [e]))⟩
  cases hf : findL L k 0 with
  | none =>
    rw [hf] at hk
    refine ⟨ChangeMaps.setBlock W m (.map (es.push ⟨k.v, .int .i64 v, clock⟩) (clock + 1)), ?_, ?_, hg _⟩
    · simp [Instr.mapUpdate, run_underlying Try.underlying116, MapKept.run_getObj_map h1, check123, hk, MapKept.run_setObj_map _ h1, Result.andThen, ChangeMaps.setBlock]
    · refine ⟨_, _, ChangeMaps.heap_setBlock_same h1 _, ?_⟩
      unfold updL
      rw [hf]
      unfold EncE at h2 ⊢
      rw [Array.toList_push, List.map_append, h2, List.map_append]
      rfl
  | some r =>
    obtain ⟨i, x⟩ := r
    rw [hf] at hk
    obtain ⟨-, hL⟩ := findL_at k L 0 i x hf
    rw [Nat.sub_zero] at hL
    have he : (es.toList.map (fun e => (e.key, e.val)))[i]? = some (k.v, .int .i64 x) := by
      rw [h2, List.getElem?_map, hL]
      rfl
    rw [List.getElem?_map, Option.map_eq_some_iff] at he
    obtain ⟨e, he1, he2⟩ := he
    have hek : e.key = k.v := by injection he2
    have he3 : es[i]? = some e := by simpa using he1
    refine ⟨ChangeMaps.setBlock W m (.map (es.modify i fun e => { e with key := k.v, val := .int .i64 v }) clock), ?_, ?_, hg _⟩
    · simp [Instr.mapUpdate, run_underlying Try.underlying116, MapKept.run_getObj_map h1, check123, hk, he3, hek, Instr.keyThatStays, same_uky, MapKept.run_setObj_map _ h1, Result.andThen, ChangeMaps.setBlock]
    · refine ⟨_, _, ChangeMaps.heap_setBlock_same h1 _, ?_⟩
      unfold updL
      rw [hf]
      unfold EncE at h2 ⊢
      simp only
      rw [Array.toList_modify, List.map_set, ← h2]
      apply List.ext_getElem?
      intro j
      rw [List.getElem?_map, List.getElem?_modify, List.getElem?_set, List.getElem?_map]
      by_cases hj : i = j
      · subst hj
        have hil : i < es.toList.length := (List.getElem?_eq_some_iff.1 he1).1
        have hil' : i < es.size := by simpa using hil
        rw [he1]
        simp [hil']
      · simp [hj]
theorem MapA.new (w : World) : MapA (w.alloc (.map #[] 0)) w.heap.size [] := ⟨#[], 0, heap_alloc_new w _, rfl⟩
theorem MapA.lt {w : World} {m : Nat} {L : List (Uky × Int)} (h : MapA w m L) : m < w.heap.size := by
  obtain ⟨es, clock, h1, _⟩ := h
  exact (Array.getElem?_eq_some_iff.1 h1).1
theorem MapA.below {B : Nat} {w w' : World} {m : Nat} {L : List (Uky × Int)} (h : MapA w m L) (hb : Below B w w') (hm : m < B) : MapA w' m L := by
  obtain ⟨es, clock, h1, h2⟩ := h
  exact ⟨es, clock, (hb.block m hm).trans h1, h2⟩
end Go.Proofs.Ytcggghamnmflcaa
namespace Go.Proofs.Ytcggghamnmflcaa
open Go Go.RowKit Go.Shelf
theorem info5 : (Try.prog.info? 5).map (fun i => (i.zero, i.size, i.bytes)) = some (some (.int .u8 0), 1, 1) := by kernel_rfl
theorem made_by (n : Nat) : madeCells (Value.int .u8 0).cells (n * 1) = (byC (List.replicate n 0) ++ ([] : List Value)).toArray := by
  unfold byC
  rw [List.append_nil, List.map_replicate, Nat.mul_one]
  unfold madeCells
  have hz : (Value.int .u8 0).cells = #[.int .u8 0] := rfl
  rw [hz]
  apply Array.ext'
  rw [Array.toList_map, Array.toList_range]
  refine List.eq_replicate_iff.2 ⟨by simp, fun b hb => ?_⟩
  obtain ⟨i, _, rfl⟩ := List.mem_map.1 hb
  simp [Nat.mod_one]
/-- 'make([]byte, n)'. -/
theorem make_bytes (W : World) (n : Nat) (hn : n ≤ 65536) : (Instr.makeSlice 75 (.int .i64 (n : Int)) (.int .i64 (n : Int))).run Try.prog W = .ok (.slice (some ⟨W.heap.size, 0, none⟩) n n) (W.alloc (.cells (byC (List.replicate n 0) ++ ([] : List Value)).toArray 5)) := by
  obtain ⟨i0, hi0, hz0', hz1', hz2'⟩ := info_parts info5
  have h := run_makeSlice (P := Try.prog) W 75 5 i0 _ Try.underlying75 hi0 hz0' .i64 .i64 (n : Int) (n : Int) (by omega) (by omega) (by rw [hz1']; omega) (by rw [hz2']; omega) (by omega)
  rw [Int.toNat_natCast, hz1', made_by] at h
  exact h
/-- 'string(b)'. -/
theorem conv_back {W : World} {g : Nat} {l : List Nat} {rest : List Value} (h : ByA W g l rest) (hx : ∀ x ∈ l, x < 256) (cap : Nat) : (convert 75 9 (.slice (some ⟨g, 0, none⟩) l.length cap)).run Try.prog W = .ok (.string (ofN l)) W := by
  have e := run_convert_bytes_back W 75 9 5 ⟨g, 0, none⟩ cap (l.map UInt8.ofNat) Try.underlying75 Try.underlying5 Try.underlying9 (fun j hj => by
    have hj' : j < l.length := by simpa using hj
    rw [add_off _ rfl, Nat.zero_add]
    have hlt := hx l[j] (List.getElem_mem _)
    have hc : W.cell? ⟨g, j, none⟩ = some (.int .u8 ((l[j] : Nat) : Int)) := by
      refine h.at_ ?_
      simp [byC, List.getElem?_append, hj']
    rw [hc]
    simp only [List.getElem_map]
    rw [UInt8.toNat_ofNat_of_lt' hlt])
  rw [List.length_map] at e
  exact e
theorem Gx.bel {w W W' : World} {g : Nat} (hb : Below w.heap.size w W) (h : Gx g W W') (hg : w.heap.size ≤ g) : Below w.heap.size w W' :=
  ⟨h.os.trans hb.os, h.tape.trans hb.tape, h.output.trans hb.output, Nat.le_trans hb.size h.size, fun k hk => (h.block k (Nat.lt_of_lt_of_le hk hb.size) (by omega)).trans (hb.block k hk)⟩
/-- Sets in memory: paths and values. -/
def SetsAt (w : World) (A : Option Addr) (n : Nat) (l : List (List Int × Int)) : Prop :=
  n = l.length ∧ ∀ i x, l[i]? = some x → ∃ b o A' c, A = some ⟨b, o, none⟩ ∧ w.cell? ⟨b, o + i * 2, none⟩ = some (.slice A' x.1.length c) ∧ w.cell? ⟨b, o + i * 2 + 1, none⟩ = some (.int .i64 x.2) ∧ IntsAt w A' x.1.length x.1 ∧ x.1.length ≤ c ∧ c ≤ 9223372036854775807
/-- The bytes behind some sets. -/
def mkS (d : Nat) (t : Tp d) (b : List Nat) : List (List Int × Int) → List Nat
  | [] => b
  | x :: l => mkS d t (match walkS d t 0 0 x.1 with | some (s, _) => wrS b s.bit.toNat (x.2 % 18446744073709551616).toNat s.bits.toNat | none => b) l
theorem mkS_snoc (d : Nat) (t : Tp d) : ∀ (l : List (List Int × Int)) (b : List Nat) (x : List Int × Int), mkS d t b (l ++ [x]) = match walkS d t 0 0 x.1 with | some (s, _) => wrS (mkS d t b l) s.bit.toNat (x.2 % 18446744073709551616).toNat s.bits.toNat | none => mkS d t b l
  | [], _, _ => rfl
  | _ :: l, _, x => mkS_snoc d t l _ x
theorem wrS_len (l : List Nat) (bt u bs : Nat) : (wrS l bt u bs).length = l.length := wrQ_len ..
theorem mkS_len (d : Nat) (t : Tp d) : ∀ (l : List (List Int × Int)) (b : List Nat), (mkS d t b l).length = b.length
  | [], _ => rfl
  | x :: l, b => by
    unfold mkS
    rw [mkS_len d t l]
    cases walkS d t 0 0 x.1 with
    | none => rfl
    | some r => exact wrS_len ..
theorem mkS_lt {d : Nat} {t : Tp d} {bx : Bx} (hp : plainS d t 6 = true) (hb : boxS d t = some bx) : ∀ (l : List (List Int × Int)) (b : List Nat), (b.length : Int) = bx.size → (∀ x ∈ b, x < 256) → ∀ x ∈ mkS d t b l, x < 256
  | [], _, _, h => h
  | y :: l, b, hn, h => by
    unfold mkS
    cases hw : walkS d t 0 0 y.1 with
    | none => exact mkS_lt hp hb l b hn h
    | some r =>
      obtain ⟨s, us⟩ := r
      obtain ⟨k1, k2, k3, k4⟩ := walk_rng hp hb hw
      refine mkS_lt hp hb l _ ?_ ?_
      · simp only
        rw [wrS_len]
        exact hn
      · exact wrQ_lt h (bs := s.bits.toNat) (by omega) _ (fun x hx => by simpa using hx)
set_option maxRecDepth 100000 in
set_option maxHeartbeats 4000000 in
theorem make0_c {d : Nat} {t : Tp d} {v0 v1 v2 v3 v4 v5 v6 : Value} (A : Option Addr) (l : List (List Int × Int)) (c : Nat) (w : World) (ht : TyAt w d t [v0, v1, v2, v3, v4, v5, v6]) (hS : SetsAt w A l.length l) (hl : l.length ≤ 9223372036854775807) (he : errS d t = 0)
    (hno : ∀ x ∈ l, ∃ s, walkS d t 0 0 x.1 = some (s, [])) :
    Calls Try.prog 55 #[.agg #[v0, v1, v2, v3, v4, v5, v6], .slice A l.length c] w fun e w' => e = .returned (.tuple #[.string (ofN (mkS d t (List.replicate (szS d t).toNat 0) l)), .int .i64 0, .int .i64 0]) ∧ Below w.heap.size w w' := by
  obtain ⟨q1, q2⟩ := err_0 he
  have hok := boxS_ok d t 6 _ q1 q2
  have hsz : szS d t = (boxD d t).size := by unfold szS; rw [if_pos he]
  obtain ⟨n, hn⟩ : ∃ n : Nat, szS d t = (n : Int) := ⟨(szS d t).toNat, by have := hok.1; omega⟩
  have hn1 : 1 ≤ n ∧ n ≤ 65536 := by have := hok.1; have := hok.2.1; omega
  have HT := Lib.hid ht
  have HS := Lib.hid hS
  have HSZ := Lib.hid (fun w' (hb : Below w.heap.size w w') => ssize_c (ht.below hb))
  rw [hn, he] at HSZ
  rw [hn, Int.toNat_natCast]
  obtain ⟨ag, hag⟩ : ∃ x, agS d t = x := ⟨_, rfl⟩
  rw [hag] at HSZ
  have HNO := Lib.hid hno
  have HQ1 := Lib.hid q1
  have HQ2 := Lib.hid q2
  have HN := Lib.hid (show (boxD d t).size = (n : Int) by rw [← hsz, hn])
  clear ht hS hno q1 q2 hag hn hsz hok he
  obtain ⟨B0, hB0⟩ : ∃ B, List.replicate n 0 = B := ⟨_, rfl⟩
  rw [hB0]
  have HB0 := Lib.hid hB0
  obtain ⟨RS, hRS⟩ : ∃ R, ofN (mkS d t B0 l) = R := ⟨_, rfl⟩
  rw [hRS]
  have HRS := Lib.hid hRS
  clear hB0 hRS
  go_enter Try.func55, Try.ntmps55
  go_upto_region 1 with (fail)
  have hT := Bk.new w 38 #[v0, v1, v2, v3, v4, v5, v6]
  have hb0 := bel_alloc (Below.refl _ w) (.cells #[v0, v1, v2, v3, v4, v5, v6] 38)
  generalize World.alloc w _ = W0 at hT hb0 ⊢
  have t0 := hT.at_ (i := 0) rfl; have t1 := hT.at_ (i := 1) rfl; have t2 := hT.at_ (i := 2) rfl; have t3 := hT.at_ (i := 3) rfl; have t4 := hT.at_ (i := 4) rfl; have t5 := hT.at_ (i := 5) rfl; have t6 := hT.at_ (i := 6) rfl
  go_wp2_with fail
  refine (HSZ.out _ hb0).mono ?_
  rintro e w1 ⟨rfl, hb1⟩
  have hT1 := hT.below hb1 hT.lt
  have HB1 := Lib.hid (bel_then hb0 hb1)
  clear t0 t1 t2 t3 t4 t5 t6 hb0 hb1 hT
  have hmk := fun W => make_bytes W n hn1.2
  have hmm := @run_makeMap Try.prog
  go_upto_region 7 with (fail)
  have hby : ByA (((w1.alloc (.cells (byC (List.replicate n 0)).toArray 5)).alloc (.cells (byC (List.replicate n 0)).toArray 5)).alloc (.map #[] 0)) w1.heap.size (List.replicate n 0) [] := .of_bk (by rw [List.append_nil]; exact ((Bk.new w1 5 _).alloc _).alloc _)
  have hT7 := ((hT1.alloc (.cells (byC (List.replicate n 0)).toArray 5)).alloc (.cells (byC (List.replicate n 0)).toArray 5)).alloc (.map #[] 0)
  have hb7 := bel_alloc (bel_alloc (bel_alloc HB1.out (.cells (byC (List.replicate n 0)).toArray 5)) (.cells (byC (List.replicate n 0)).toArray 5)) (.map #[] 0)
  have hgb := HB1.out.size
  have hgb2 := hT1.lt
  clear hmk hmm hT1 HB1
  obtain ⟨gb, hgbe⟩ : ∃ g, w1.heap.size = g := ⟨_, rfl⟩
  generalize World.alloc (World.alloc (World.alloc w1 _) _) _ = W7 at hby hT7 hb7 ⊢
  rw [hgbe] at hby hgb hgb2 ⊢
  clear hgbe
  rw [HB0.out] at hby
  have hB0l : B0.length = n := by rw [← HB0.out]; simp
  have hB0x : ∀ x ∈ B0, x < 256 := fun x hx => by rw [← HB0.out] at hx; have := List.eq_of_mem_replicate hx; omega
  have HLT := Lib.hid (fun j => mkS_lt HQ1.out HQ2.out (l.take j) B0 (by rw [hB0l, HN.out]) hB0x)
  go_wp2_with fail
  go_loopw [37] (fun s37 wr => ∃ j : Nat, j ≤ l.length ∧ s37 = .int .i64 j ∧ ByA wr gb (mkS d t B0 (l.take j)) [] ∧ Below w.heap.size w wr ∧ Bk wr w.heap.size 38 #[v0, v1, v2, v3, v4, v5, v6]) (fun i _ => l.length - (intOf i).toNat)
  case atStart => exact ⟨0, Nat.zero_le _, rfl, by simpa [mkS] using hby, hb7, hT7⟩
  case round =>
    clear hby hb7 hT7
    obtain ⟨j, hj, rfl, hby, hbel, hT⟩ := hrel
    by_cases hlt : j < l.length
    · obtain ⟨x, hx⟩ : ∃ x, l[j]? = some x := ⟨_, List.getElem?_eq_getElem hlt⟩
      obtain ⟨s, hws⟩ := HNO.out x (List.mem_of_getElem? hx)
      obtain ⟨sb', so, PA, pc, rfl, c0, c1, hPI, hp1, hp2⟩ := HS.out.2 j x hx
      have hsnoc := mkS_snoc d t (l.take j) B0 x
      rw [← take_snoc_of hx, hws] at hsnoc
      simp only at hsnoc
      obtain ⟨k1, k2, k3, k4⟩ := walk_rng HQ1.out HQ2.out hws
      rw [HN.out] at k4
      obtain ⟨p, xv⟩ := x
      simp only at c0 c1 hPI hp1 hp2 hws hsnoc
      have HSN := Lib.hid hsnoc
      have HWS := Lib.hid hws
      replace c0 := bel_cell hbel c0
      replace c1 := bel_cell hbel c1
      have HF := Lib.hid (fun w' (hb : Below w.heap.size w w') => follow_c PA p pc w' HQ1.out HQ2.out (HT.out.below hb) (hPI.below hb) hp1 hp2)
      clear hsnoc hws hx hPI
      obtain ⟨np, hnp⟩ : ∃ y, p.length = y := ⟨_, rfl⟩
      rw [hnp] at c0 HF
      clear hp1 hnp
      obtain ⟨wo, rfl⟩ : ∃ wo : World, wo = wr := ⟨_, rfl⟩
      go_upto_region 10 with (fail)
      have h14 := Bk.new wo 77 #[.slice PA np pc, .int .i64 xv]
      have hT2 := hT.alloc (.cells #[.slice PA np pc, .int .i64 xv] 77)
      have hby2 := hby.alloc (.cells #[.slice PA np pc, .int .i64 xv] 77)
      have hb2 := bel_alloc hbel (.cells #[.slice PA np pc, .int .i64 xv] 77)
      obtain ⟨G14, hG14⟩ : ∃ g, wo.heap.size = g := ⟨_, rfl⟩
      have hgl := hby.lt
      rw [hG14] at h14 hgl ⊢
      generalize World.alloc wo _ = W2 at h14 hT2 hby2 hb2 ⊢
      clear hT hby hbel c0 c1 hG14
      have t0 := hT2.at_ (i := 0) rfl; have t1 := hT2.at_ (i := 1) rfl; have t2 := hT2.at_ (i := 2) rfl; have t3 := hT2.at_ (i := 3) rfl; have t4 := hT2.at_ (i := 4) rfl; have t5 := hT2.at_ (i := 5) rfl; have t6 := hT2.at_ (i := 6) rfl
      have p0 := h14.at_ (i := 0) rfl
      go_wp2_with fail
      refine (HF.out _ hb2).mono ?_
      rintro e w4 ⟨s', B, k, c', rfl, hw, hb4⟩
      obtain ⟨rfl, hst, -⟩ := hw s [] HWS.out
      obtain rfl : k = 0 := hst.1
      have hsome : (walkS d t 0 0 p).isSome = true := by rw [HWS.out]; rfl
      rw [hsome]
      have h144 := h14.below hb4 h14.lt
      have hT4 := hT2.below hb4 hT2.lt
      have hby4 := hby2.below hb4 hby2.lt
      have hb5 := bel_then hb2 hb4
      clear t0 t1 t2 t3 t4 t5 t6 p0 hw hst h14 hT2 hby2 hb2 hb4 hsome
      obtain ⟨bt, bs, e4, e5, e6, e7, e8⟩ : ∃ bt bs : Nat, s'.bit = (bt : Int) ∧ s'.bits = (bs : Int) ∧ 1 ≤ bs ∧ bs ≤ 64 ∧ bt + bs ≤ 8 * n := ⟨s'.bit.toNat, s'.bits.toNat, by omega, by omega, by omega, by omega, by omega⟩
      have hsn := HSN.out
      rw [e4, e5, Int.toNat_natCast, Int.toNat_natCast] at hsn
      rw [e4, e5]
      obtain ⟨L, hL⟩ : ∃ L, mkS d t B0 (l.take j) = L := ⟨_, rfl⟩
      rw [hL] at hby4 hsn
      have hLl : L.length = n := by rw [← hL, mkS_len, hB0l]
      have hLx : ∀ x ∈ L, x < 256 := by rw [← hL]; exact HLT.out j
      obtain ⟨u, hu⟩ : ∃ u : Nat, xv % 18446744073709551616 = (u : Int) := ⟨(xv % 18446744073709551616).toNat, by omega⟩
      rw [hu, Int.toNat_natCast] at hsn
      have HSN2 := Lib.hid hsn
      have HU := Lib.hid hu
      obtain ⟨sk, hsk⟩ : ∃ y, s'.k = y := ⟨_, rfl⟩
      rw [hsk]
      clear hsn hu hL hsk e4 e5 HSN
      go_upto_region 11 with (fail)
      have h15 := Bk.new w4 119 #[.int .i64 bt, .int .i64 bs, .int .i64 sk, .slice B 0 c']
      have h145 := h144.alloc (.cells #[.int .i64 bt, .int .i64 bs, .int .i64 sk, .slice B 0 c'] 119)
      have hT5 := hT4.alloc (.cells #[.int .i64 bt, .int .i64 bs, .int .i64 sk, .slice B 0 c'] 119)
      have hby5 := hby4.alloc (.cells #[.int .i64 bt, .int .i64 bs, .int .i64 sk, .slice B 0 c'] 119)
      have hb6 := bel_alloc hb5 (.cells #[.int .i64 bt, .int .i64 bs, .int .i64 sk, .slice B 0 c'] 119)
      generalize World.alloc w4 _ = W5 at h15 h145 hT5 hby5 hb6 ⊢
      have r0 := h15.at_ (i := 0) rfl; have r1 := h15.at_ (i := 1) rfl; have r2 := h15.at_ (i := 2) rfl; have r3 := h15.at_ (i := 3) rfl
      have r4 := h145.at_ (i := 1) rfl
      have HW := write_c gb n L [] bt bs sk xv u W5 hby5 hLx (by omega) (by omega) e7 HU.out
      rw [hLl] at HW
      replace HW := Lib.hid HW
      have HT5 := Lib.hid hT5
      have HB6 := Lib.hid hb6
      clear h144 hT4 hby4 hb5 h145 h15 hby5 hT5 hb6
      go_wp2_with fail
      go_loopw [55] (fun s55 wr => s55 = .int .i64 0 ∧ wr = W5) (fun _ _ => 0)
      case atStart => exact ⟨rfl, rfl⟩
      case round =>
        obtain ⟨rfl, rfl⟩ := hrel
        go_wp2_with fail
        refine HW.out.mono ?_
        rintro e w6 ⟨⟨r, rfl⟩, hby6, hgx⟩
        have hb7 := Gx.bel HB6.out hgx hgb
        have hT6 : Bk w6 w.heap.size 38 #[v0, v1, v2, v3, v4, v5, v6] := (hgx.block _ HT5.out.lt (by omega)).trans HT5.out
        have HBY := Lib.hid hby6
        have HB7 := Lib.hid hb7
        have HT6 := Lib.hid hT6
        clear hby6 hgx hb7 hT6 r0 r1 r2 r3 r4
        go_wp2_with fail
        go_roundw
        case rel => exact ⟨j + 1, by omega, by go_num, by rw [HSN2.out]; exact HBY.out, HB7.out, HT6.out⟩
        case measure => simp [intOf]; omega
    · obtain rfl : j = l.length := by omega
      rw [List.take_length] at hby
      have hLl : (mkS d t B0 l).length = n := by rw [mkS_len, hB0l]
      have hLx := HLT.out l.length
      rw [List.take_length] at hLx
      have hcv := conv_back hby hLx n
      rw [hLl, HRS.out] at hcv
      have HB := Lib.hid hbel
      clear hbel hby hLl hLx hT
      go_wp2_with fail
      go_ret3
      exact ⟨rfl, HB.out⟩
end Go.Proofs.Ytcggghamnmflcaa
namespace Go.Proofs.Ytcggghamnmflcaa
open Go Go.RowKit Go.Shelf
theorem results89 {tmps : Array Value} {W : World} {g : Nat} {v0 v1 v2 v3 v4 v5 v6 : Value} (h4 : tmps.getD 2 undef = .pointer (some ⟨g, 0, none⟩)) (h : Bk W g 38 #[v0, v1, v2, v3, v4, v5, v6]) : (results Try.f89 tmps).run Try.prog W = .ok (.agg #[v0, v1, v2, v3, v4, v5, v6]) W := by
  have c0 : W.cell? ⟨g, 0, none⟩ = some v0 := h.at_ (i := 0) rfl
  have c1 : W.cell? ⟨g, 1, none⟩ = some v1 := h.at_ (i := 1) rfl
  have c2 : W.cell? ⟨g, 2, none⟩ = some v2 := h.at_ (i := 2) rfl
  have c3 : W.cell? ⟨g, 3, none⟩ = some v3 := h.at_ (i := 3) rfl
  have c4 : W.cell? ⟨g, 4, none⟩ = some v4 := h.at_ (i := 4) rfl
  have c5 : W.cell? ⟨g, 5, none⟩ = some v5 := h.at_ (i := 5) rfl
  have c6 : W.cell? ⟨g, 6, none⟩ = some v6 := h.at_ (i := 6) rfl
  rw [Array.getD_eq_getD_getElem?] at h4
  simp [results, Try.results89, go_sem, h4, c0, c1, c2, c3, c4, c5, c6]
theorem integer89_c (k : Int) (w : World) : Calls Try.prog 89 #[.int .i64 k] w fun e w' => e = .returned (.agg #[.int .i64 1, .int .i64 k, .int .i64 0, .slice none 0 0, .slice none 0 0, .bool false, .int .i64 0]) ∧ Below w.heap.size w w' := by
  go_enter Try.func89, Try.ntmps89
  go_wp2
  have hre := Bk.new w 38 #[.int .i64 1, .int .i64 k, .int .i64 0, .slice none 0 0, .slice none 0 0, .bool false, .int .i64 0]
  have hbe := bel_alloc (Below.refl _ w) (.cells #[.int .i64 1, .int .i64 k, .int .i64 0, .slice none 0 0, .slice none 0 0, .bool false, .int .i64 0] 38)
  generalize World.alloc w _ = W5 at hre hbe ⊢
  exact bodyPost_ret (results89 rfl hre) rfl ⟨rfl, hbe⟩
def imgT : Tp 2 := ({ sh := 4, k := 0, n := 0, of := [], fs := [⟨⟨#[97]⟩, intT 1, -1⟩, ⟨⟨#[98]⟩, intT 5, 4⟩, ⟨⟨#[99]⟩, intT 5, 6⟩], pk := false, al := 0 } : Nd (Tp 1))
def imgL : List (List Int × Int) := [([0], 1), ([1], -1), ([2], 5)]
def imgB : ByteArray := ⟨#[1, 95, 0, 0]⟩
theorem img_err : errS 2 imgT = 0 := by kernel_rfl
theorem img_sz : szS 2 imgT = 4 := by kernel_rfl
theorem img_w0 : walkS 2 imgT 0 0 [0] = some (⟨0, 8, 1⟩, []) := by kernel_rfl
theorem img_w1 : walkS 2 imgT 0 0 [1] = some (⟨8, 4, 5⟩, []) := by kernel_rfl
theorem img_w2 : walkS 2 imgT 0 0 [2] = some (⟨12, 6, 5⟩, []) := by kernel_rfl
theorem img_mk : ofN (mkS 2 imgT (List.replicate (szS 2 imgT).toNat 0) imgL) = imgB := by kernel_rfl
theorem img_sE : sizedE 2 imgT imgB.size [1] = 0 := by kernel_rfl
theorem img_gV : getV 2 imgT imgB [1] = -1 := by kernel_rfl
def imgCells : Array Value := #[.string ⟨#[97]⟩, .int .i64 1, .int .i64 1, .int .i64 0, .slice none 0 0, .slice none 0 0, .bool false, .int .i64 0, .int .i64 (-1), .string ⟨#[98]⟩, .int .i64 1, .int .i64 5, .int .i64 0, .slice none 0 0, .slice none 0 0, .bool false, .int .i64 0, .int .i64 4, .string ⟨#[99]⟩, .int .i64 1, .int .i64 5, .int .i64 0, .slice none 0 0, .slice none 0 0, .bool false, .int .i64 0, .int .i64 6]
theorem img_toL : imgB.toList = [1, 95, 0, 0] := by kernel_rfl
theorem imgT_at (W : World) (g : Nat) (t : TypeId) (h : Bk W g t imgCells) : TyAt W 2 imgT [.int .i64 4, .int .i64 0, .int .i64 0, .slice none 0 0, .slice (some ⟨g, 0, none⟩) 3 3, .bool false, .int .i64 0] := by
  refine ⟨none, some ⟨g, 0, none⟩, 0, 3, rfl, (i64d (n := 4) (by decide)), (i64d (n := 0) (by decide)), (i64d (n := 0) (by decide)), (i64d (n := 0) (by decide)), Nat.le_refl _, Nat.le_refl _, by decide, by decide, fun i x h => by simp [imgT] at h, ?_⟩
  refine pick3 ?_ ?_ ?_
  · exact ⟨g, 0, _, rfl, rfl, (i64d (n := -1) (by decide)), by decide, row_of_bk h _ _ (fun j v hv => by
      match j, hv with
      | 0, hv | 1, hv | 2, hv | 3, hv | 4, hv | 5, hv | 6, hv | 7, hv | 8, hv => exact hv
      | j + 9, hv => simp at hv), intT_at W 1 (i64d (by decide))⟩
  · exact ⟨g, 0, _, rfl, rfl, (i64d (n := 4) (by decide)), by decide, row_of_bk h _ _ (fun j v hv => by
      match j, hv with
      | 0, hv | 1, hv | 2, hv | 3, hv | 4, hv | 5, hv | 6, hv | 7, hv | 8, hv => exact hv
      | j + 9, hv => simp at hv), intT_at W 5 (i64d (by decide))⟩
  · exact ⟨g, 0, _, rfl, rfl, (i64d (n := 6) (by decide)), by decide, row_of_bk h _ _ (fun j v hv => by
      match j, hv with
      | 0, hv | 1, hv | 2, hv | 3, hv | 4, hv | 5, hv | 6, hv | 7, hv | 8, hv => exact hv
      | j + 9, hv => simp at hv), intT_at W 5 (i64d (by decide))⟩
theorem one_int {W : World} {g : Nat} {v : Int} (h : Bk W g 3 #[.int .i64 v]) : IntsAt W (some ⟨g, 0, none⟩) 1 [v] := ⟨rfl, fun i x hx => by
  match i, hx with
  | 0, hx => cases hx; exact ⟨g, 0, rfl, h.at_ rfl⟩
  | i + 1, hx => simp at hx⟩
theorem img_sets {W : World} {a b c g : Nat} (h0 : Bk W a 3 #[.int .i64 0]) (h1 : Bk W b 3 #[.int .i64 1]) (h2 : Bk W c 3 #[.int .i64 2]) (h : Bk W g 77 #[.slice (some ⟨a, 0, none⟩) 1 1, .int .i64 1, .slice (some ⟨b, 0, none⟩) 1 1, .int .i64 (-1), .slice (some ⟨c, 0, none⟩) 1 1, .int .i64 5]) : SetsAt W (some ⟨g, 0, none⟩) 3 imgL := by
  refine ⟨rfl, ?_⟩
  refine pick3 ?_ ?_ ?_
  · exact ⟨g, 0, some ⟨a, 0, none⟩, 1, rfl, h.at_ (i := 0) rfl, h.at_ (i := 1) rfl, one_int h0, Nat.le_refl _, by omega⟩
  · exact ⟨g, 0, some ⟨b, 0, none⟩, 1, rfl, h.at_ (i := 2) rfl, h.at_ (i := 3) rfl, one_int h1, Nat.le_refl _, by omega⟩
  · exact ⟨g, 0, some ⟨c, 0, none⟩, 1, rfl, h.at_ (i := 4) rfl, h.at_ (i := 5) rfl, one_int h2, Nat.le_refl _, by omega⟩
theorem img_make {w : World} {g : Nat} {A : Option Addr} (ht : TyAt w 2 imgT [.int .i64 4, .int .i64 0, .int .i64 0, .slice none 0 0, .slice (some ⟨g, 0, none⟩) 3 3, .bool false, .int .i64 0]) (hS : SetsAt w A 3 imgL) :
    Calls Try.prog 55 #[.agg #[.int .i64 4, .int .i64 0, .int .i64 0, .slice none 0 0, .slice (some ⟨g, 0, none⟩) 3 3, .bool false, .int .i64 0], .slice A 3 3] w fun e w' => e = .returned (.tuple #[.string imgB, .int .i64 0, .int .i64 0]) ∧ Below w.heap.size w w' := by
  have h := make0_c A imgL 3 w ht hS (by decide) img_err (fun x hx => by
    simp only [imgL, List.mem_cons, List.not_mem_nil, or_false] at hx
    rcases hx with rfl | rfl | rfl
    · exact ⟨_, img_w0⟩
    · exact ⟨_, img_w1⟩
    · exact ⟨_, img_w2⟩)
  rw [img_mk] at h
  exact h
theorem img_get {w : World} {g : Nat} {A : Option Addr} (ht : TyAt w 2 imgT [.int .i64 4, .int .i64 0, .int .i64 0, .slice none 0 0, .slice (some ⟨g, 0, none⟩) 3 3, .bool false, .int .i64 0]) (hP : IntsAt w A 1 [1]) :
    Calls Try.prog 59 #[.agg #[.int .i64 4, .int .i64 0, .int .i64 0, .slice none 0 0, .slice (some ⟨g, 0, none⟩) 3 3, .bool false, .int .i64 0], .string imgB, .slice A 1 1] w fun e w' => e = .returned (.tuple #[.int .i64 (-1), .int .i64 0]) ∧ Below w.heap.size w w' := by
  have h := get_c A [1] 1 imgB w ht hP (Nat.le_refl _) (by omega) (by decide)
  unfold GetP at h
  rw [img_gV, img_sE] at h
  exact h
def imgW (W : World) : World := (((W.alloc (.cells #[.int .i64 0] 3)).alloc (.cells #[.int .i64 1] 3)).alloc (.cells #[.int .i64 2] 3)).alloc (.cells #[.slice (some ⟨W.heap.size, 0, none⟩) 1 1, .int .i64 1, .slice (some ⟨W.heap.size + 1, 0, none⟩) 1 1, .int .i64 (-1), .slice (some ⟨W.heap.size + 1 + 1, 0, none⟩) 1 1, .int .i64 5] 77)
theorem imgW_sets (W : World) : SetsAt (imgW W) (some ⟨W.heap.size + 1 + 1 + 1, 0, none⟩) 3 imgL :=
  img_sets ((((Bk.new W 3 _).alloc _).alloc _).alloc _) (((Bk.new1 W _ 3 _).alloc _).alloc _) ((Bk.new2 W _ _ 3 _).alloc _)
    (Bk.newk (by rw [World.size_alloc, World.size_alloc, World.size_alloc]))
theorem imgW_below (W : World) : Below W.heap.size W (imgW W) := bel_alloc (bel_alloc (bel_alloc (bel_alloc (Below.refl _ W) _) _) _) _
set_option maxRecDepth 100000 in
set_option maxHeartbeats 2000000 in
theorem shown54_c (w : World) : Calls Try.prog 54 #[] w fun e w' => e = .returned (.bool true) ∧ Below w.heap.size w w' := by
  go_enter Try.func54, Try.ntmps54
  go_wp2_with fail
  refine (integer89_c _ _).mono ?_; rintro e w1 ⟨rfl, hb1⟩
  go_wp2_with fail
  refine (integer89_c _ _).mono ?_; rintro e w2 ⟨rfl, hb2⟩
  go_wp2_with fail
  refine (integer89_c _ _).mono ?_; rintro e w3 ⟨rfl, hb3⟩
  have hB3 := bel_then (bel_then hb1 hb2) hb3
  clear hb1 hb2 hb3
  go_upto_region 2 with (fail)
  have hg := (Bk.new w3 56 imgCells).alloc (.cells #[.int .i64 4, .int .i64 0, .int .i64 0, .slice none 0 0, .slice (some ⟨w3.heap.size, 0, none⟩) 3 3, .bool false, .int .i64 0] 38)
  have ht := Bk.new1 w3 (.cells imgCells 56) 38 #[.int .i64 4, .int .i64 0, .int .i64 0, .slice none 0 0, .slice (some ⟨w3.heap.size, 0, none⟩) 3 3, .bool false, .int .i64 0]
  have hB4 := bel_alloc (bel_alloc hB3 (.cells imgCells 56)) (.cells #[.int .i64 4, .int .i64 0, .int .i64 0, .slice none 0 0, .slice (some ⟨w3.heap.size, 0, none⟩) 3 3, .bool false, .int .i64 0] 38)
  unfold imgCells at hg ht hB4
  generalize World.alloc (World.alloc w3 _) _ = W4 at hg ht hB4 ⊢
  obtain ⟨G, hG⟩ : ∃ g, w3.heap.size = g := ⟨_, rfl⟩
  rw [hG] at hg ht ⊢
  clear hG hB3
  have HTY := Lib.hid (imgT_at W4 _ _ hg)
  have HB4 := Lib.hid hB4
  clear hg hB4
  have t0 := ht.at_ (i := 0) rfl; have t1 := ht.at_ (i := 1) rfl; have t2 := ht.at_ (i := 2) rfl; have t3 := ht.at_ (i := 3) rfl; have t4 := ht.at_ (i := 4) rfl; have t5 := ht.at_ (i := 5) rfl; have t6 := ht.at_ (i := 6) rfl
  go_wp2_with fail
  have HS := imgW_sets W4
  have hb5 := imgW_below W4
  unfold imgW at HS hb5
  generalize World.alloc (World.alloc (World.alloc (World.alloc W4 _) _) _) _ = W5 at HS hb5 ⊢
  have hty5 := (show TyAt W4 2 imgT _ from HTY).below hb5
  have u0 := ht.below hb5 ht.lt
  have hb6 := bel_then HB4 hb5
  clear HTY HB4 hb5 ht t0 t1 t2 t3 t4 t5 t6
  refine (img_make hty5 HS).mono ?_; rintro e W6 ⟨rfl, hb7⟩
  have hty6 := hty5.below hb7
  have ht := u0.below hb7 u0.lt
  have hB6 := bel_then hb6 hb7
  clear hty5 u0 hb6 hb7 HS
  have HTY := Lib.hid hty6
  have HB6 := Lib.hid hB6
  clear hty6 hB6
  have t0 := ht.at_ (i := 0) rfl; have t1 := ht.at_ (i := 1) rfl; have t2 := ht.at_ (i := 2) rfl; have t3 := ht.at_ (i := 3) rfl; have t4 := ht.at_ (i := 4) rfl; have t5 := ht.at_ (i := 5) rfl; have t6 := ht.at_ (i := 6) rfl
  go_wp2_with fail
  have hk := Bk.new W6 3 #[.int .i64 1]
  have hb7 := bel_alloc (Below.refl _ W6) (.cells #[.int .i64 1] 3)
  generalize World.alloc W6 _ = W7 at hk hb7 ⊢
  refine (img_get ((show TyAt W6 2 imgT _ from HTY).below hb7) (one_int hk)).mono ?_; rintro e W8 ⟨rfl, hb8⟩
  have HB := Lib.hid (bel_then (bel_then HB6 hb7) hb8)
  clear HTY HB6 ht t0 t1 t2 t3 t4 t5 t6 hb7 hb8 hk
  go_wp2_with fail
  · go_ret
    exact ⟨rfl, HB.out⟩
  · exact absurd img_toL (by assumption)
end Go.Proofs.Ytcggghamnmflcaa
