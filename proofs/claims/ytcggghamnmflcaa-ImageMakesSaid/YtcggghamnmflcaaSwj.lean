/- What shape.compound's own cells hold within a round: small laws on worlds. -/
import Derived.Test.YtcggghamnmflcaaSwi
import Derived.OwnWalkIn
import Derived.Test.YtcggghamnmflcaaOpn
import Derived.RangeFuncBox
import Derived.Test.YtcggghamnmflcaaFlo
namespace Go.Proofs.Ytcggghamnmflcaa
open Go Go.RowKit Go.Shelf
theorem FdsAt.drop_ {w : World} {d : Nat} {b o c : Nat} {l : List (Fld (Tp d))} (h : FdsAt w d (some ⟨b, o, none⟩) l) (hc : l.length ≤ c) (k : Nat) : FdsAt w d (if c = k then some ⟨b, o, none⟩ else some ⟨b, o + k * 9, none⟩) (l.drop k) := fun i f hf => by
  rw [List.getElem?_drop] at hf
  obtain ⟨b', o', xs, ha, hl, hbt, hn, hr, ht⟩ := h (k + i) f hf
  cases ha
  have hlt := (List.getElem?_eq_some_iff.1 hf).1
  rw [if_neg (by omega)]
  exact ⟨b, o + k * 9, xs, rfl, hl, hbt, hn, by rw [show o + k * 9 + i * 9 = o + (k + i) * 9 by omega]; exact hr, ht⟩
/-- What compound's own cells hold within a round. -/
structure CmpM (w0 : World) (B : Nat) (t0 : Array Value) (deep : Int) (sl : Value) (i at_ en ag : Int) (n : Nat) (L : List Value) (S : Value) (W : World) : Prop where
  o : Bk W B 99 #[.int .i64 0, .int .i64 ag, S]
  a : Bk W (B + 1) 2 #[.int .i64 at_]
  e : Bk W (B + 1 + 1) 2 #[.int .i64 en]
  r : W.ownsRow (B + 1 + 1 + 1 + 1 + 1 + 1 + 1) 48 3 S n L
  wo : Bk W (B + 1 + 1 + 1) 23 #[.int .i64 0]
  i : Bk W (B + 1 + 1 + 1 + 1) 3 #[.int .i64 i]
  sl : Bk W (B + 1 + 1 + 1 + 1 + 1) 36 #[sl]
  dp : Bk W (B + 1 + 1 + 1 + 1 + 1 + 1) 3 #[.int .i64 (deep - 1)]
  t : Bk W w0.heap.size 38 t0
  de : Bk W (w0.heap.size + 1) 3 #[.int .i64 deep]
  re : Bk W (w0.heap.size + 1 + 1) 99 #[.int .i64 0, .int .i64 0, .slice none 0 0]
  bel : Below w0.heap.size w0 W
theorem own_ne' {W : World} {base n : Nat} {S : Value} {xs : List Value} (h : W.ownsRow base 48 3 S n xs) {g : Nat} (hg : g < base) : some g ≠ S.ownBlock := fun e => own_ne h hg e.symm
section
variable {w0 : World} {B : Nat} {t0 : Array Value} {deep : Int} {sl : Value} {i at_ en ag : Int} {n : Nat} {L : List Value} {S : Value} {W W1 : World}
theorem CmpM.lt (h : CmpM w0 B t0 deep sl i at_ en ag n L S W) : B + 1 + 1 + 1 + 1 + 1 + 1 < W.heap.size := h.dp.lt
theorem CmpM.below_ (h : CmpM w0 B t0 deep sl i at_ en ag n L S W) (hb : Below W.heap.size W W1) : CmpM w0 B t0 deep sl i at_ en ag n L S W1 :=
  ⟨h.o.below hb h.o.lt, h.a.below hb h.a.lt, h.e.below hb h.e.lt, h.r.kept (grown_none hb) (by cases S.ownBlock <;> simp), h.wo.below hb h.wo.lt, h.i.below hb h.i.lt, h.sl.below hb h.sl.lt, h.dp.below hb h.dp.lt, h.t.below hb h.t.lt, h.de.below hb h.de.lt, h.re.below hb h.re.lt, bel_then h.bel hb⟩
theorem CmpM.alloc_ (h : CmpM w0 B t0 deep sl i at_ en ag n L S W) (o : Obj) : CmpM w0 B t0 deep sl i at_ en ag n L S (W.alloc o) := h.below_ (bel_alloc (Below.refl _ _) _)
theorem CmpM.setI (h : CmpM w0 B t0 deep sl i at_ en ag n L S W) (hB : w0.heap.size + 1 + 1 < B) (v : Int) : CmpM w0 B t0 deep sl v at_ en ag n L S (W.setCell ⟨B + 1 + 1 + 1 + 1, 0, none⟩ (.int .i64 v)) :=
  ⟨h.o.far (by simp only; omega) _, h.a.far (by simp only; omega) _, h.e.far (by simp only; omega) _, h.r.kept (grownBy_setCell' W (B + 1 + 1 + 1 + 1) _) (.inr (own_ne h.r (by omega))), h.wo.far (by simp only; omega) _, h.i.set_ 0 _, h.sl.far (by simp only; omega) _, h.dp.far (by simp only; omega) _, h.t.far (by simp only; omega) _, h.de.far (by simp only; omega) _, h.re.far (by simp only; omega) _, h.bel.setCell (by simp; omega) _⟩
theorem CmpM.setA (h : CmpM w0 B t0 deep sl i at_ en ag n L S W) (hB : w0.heap.size + 1 + 1 < B) (v : Int) : CmpM w0 B t0 deep sl i v en ag n L S (W.setCell ⟨B + 1, 0, none⟩ (.int .i64 v)) :=
  ⟨h.o.far (by simp only; omega) _, h.a.set_ 0 _, h.e.far (by simp only; omega) _, h.r.kept (grownBy_setCell' W (B + 1) _) (.inr (own_ne h.r (by omega))), h.wo.far (by simp only; omega) _, h.i.far (by simp only; omega) _, h.sl.far (by simp only; omega) _, h.dp.far (by simp only; omega) _, h.t.far (by simp only; omega) _, h.de.far (by simp only; omega) _, h.re.far (by simp only; omega) _, h.bel.setCell (by simp; omega) _⟩
theorem CmpM.setE (h : CmpM w0 B t0 deep sl i at_ en ag n L S W) (hB : w0.heap.size + 1 + 1 < B) (v : Int) : CmpM w0 B t0 deep sl i at_ v ag n L S (W.setCell ⟨B + 1 + 1, 0, none⟩ (.int .i64 v)) :=
  ⟨h.o.far (by simp only; omega) _, h.a.far (by simp only; omega) _, h.e.set_ 0 _, h.r.kept (grownBy_setCell' W (B + 1 + 1) _) (.inr (own_ne h.r (by omega))), h.wo.far (by simp only; omega) _, h.i.far (by simp only; omega) _, h.sl.far (by simp only; omega) _, h.dp.far (by simp only; omega) _, h.t.far (by simp only; omega) _, h.de.far (by simp only; omega) _, h.re.far (by simp only; omega) _, h.bel.setCell (by simp; omega) _⟩
theorem grown_set (W : World) (b k : Nat) (v : Value) : W.grownBy (W.setCell ⟨b, k, none⟩ v) (some b) :=
  ⟨rfl, rfl, rfl, by simp [World.setCell], fun j _ hj => Below.heap_setCell W ⟨b, k, none⟩ v j (fun e => hj (by rw [e]))⟩
theorem CmpM.setG (h : CmpM w0 B t0 deep sl i at_ en ag n L S W) (hB : w0.heap.size + 1 + 1 < B) (v : Int) : CmpM w0 B t0 deep sl i at_ en v n L S (W.setCell ⟨B, 1, none⟩ (.int .i64 v)) :=
  ⟨h.o.set_ 1 _, h.a.far (by simp only; omega) _, h.e.far (by simp only; omega) _, h.r.kept (grown_set W B 1 _) (.inr (own_ne h.r (by omega))), h.wo.far (by simp only; omega) _, h.i.far (by simp only; omega) _, h.sl.far (by simp only; omega) _, h.dp.far (by simp only; omega) _, h.t.far (by simp only; omega) _, h.de.far (by simp only; omega) _, h.re.far (by simp only; omega) _, h.bel.setCell (by simp; omega) _⟩
/-- Behind an append that is stored back. -/
theorem CmpM.app (h : CmpM w0 B t0 deep sl i at_ en ag n L S W) (hB : w0.heap.size + 1 + 1 < B) {S' : Value} {n' : Nat} {L' : List Value} (hr : W1.ownsRow (B + 1 + 1 + 1 + 1 + 1 + 1 + 1) 48 3 S' n' L') (hg : W.grownBy W1 S.ownBlock) :
    CmpM w0 B t0 deep sl i at_ en ag n' L' S' (W1.setCell ⟨B, 2, none⟩ S') := by
  have hb := h.r
  have q : ∀ g, g < B + 1 + 1 + 1 + 1 + 1 + 1 + 1 → some g ≠ S.ownBlock := fun g hg => own_ne' hb hg
  have b2 : ∀ k, S.ownBlock = some k → w0.heap.size ≤ k := fun k hk => by
    rcases Nat.lt_or_ge k (B + 1 + 1 + 1 + 1 + 1 + 1 + 1) with h1 | h1
    · exact absurd hk.symm (q k h1)
    · omega
  exact ⟨(h.o.grown hg (q _ (by omega))).set_ 2 _, (h.a.grown hg (q _ (by omega))).far (by simp only; omega) _, (h.e.grown hg (q _ (by omega))).far (by simp only; omega) _, hr.kept (grown_set W1 B 2 _) (.inr (own_ne hr (by omega))), (h.wo.grown hg (q _ (by omega))).far (by simp only; omega) _, (h.i.grown hg (q _ (by omega))).far (by simp only; omega) _, (h.sl.grown hg (q _ (by omega))).far (by simp only; omega) _, (h.dp.grown hg (q _ (by omega))).far (by simp only; omega) _, (h.t.grown hg (q _ (by omega))).far (by simp only; omega) _, (h.de.grown hg (q _ (by omega))).far (by simp only; omega) _, (h.re.grown hg (q _ (by omega))).far (by simp only; omega) _, (h.bel.grown hg h.bel.size b2).setCell (by simp; omega) _⟩
end
/-- The start of a round. -/
theorem CmpI.mid {d : Nat} {w0 : World} {B : Nat} {t0 : Array Value} {deep : Int} {sl : Value} {un pk : Bool} {al : Int} {l : List (Fld (Tp d))} {k : Nat} {pre : List BxV} {W : World} (h : CmpI w0 B t0 deep sl un pk al l 0 k pre W) :
    ∃ (at_ en ag : Int) (L : List Spt) (S : Value), CmpM w0 B t0 deep sl k at_ en ag L.length (sptC L) S W ∧ L.length = pre.length ∧ I64 at_ ∧ I64 en ∧ 1 ≤ ag ∧ ag ≤ 64 ∧ (PreR d (deep - 1) l pre → layK un pk al l pre = { at_ := at_, end_ := en, align := ag, l := L }) ∧ (∀ x ∈ pre, x.er = 0) := by
  obtain ⟨at_, en, ag, L, S, e1, e2, e3, e4, e5, e6, e7, e8, e9, e10⟩ := h.ex
  exact ⟨at_, en, ag, L, S, ⟨e1, e2, e3, e4, h.wo, h.i, h.sl, h.dp, h.t, h.de, h.re, h.bel⟩, e5, e6, e7, e8, e9, e10, h.er0⟩
theorem CmpM.ends {d : Nat} {w0 : World} {B : Nat} {t0 : Array Value} {deep : Int} {sl : Value} {un pk : Bool} {al : Int} {l : List (Fld (Tp d))} {k : Nat} {pre : List BxV} {W : World} {at_ en ag : Int} {L : List Spt} {S : Value} {n : Nat} {i : Int} (h : CmpM w0 B t0 deep sl i at_ en ag n (sptC L) S W) (hi : i = k) (hn : n = L.length)
    (h1 : L.length = pre.length) (h2 : I64 at_) (h3 : I64 en) (h4 : 1 ≤ ag) (h5 : ag ≤ 64) (h6 : PreR d (deep - 1) l pre → layK un pk al l pre = { at_ := at_, end_ := en, align := ag, l := L }) (h7 : ∀ x ∈ pre, x.er = 0) : CmpI w0 B t0 deep sl un pk al l 0 k pre W := by
  subst hi hn
  exact ⟨⟨at_, en, ag, L, S, h.o, h.a, h.e, h.r, h1, h2, h3, h4, h5, h6⟩, h7, h.wo, h.i, h.sl, h.dp, h.t, h.de, h.re, h.bel⟩
/-- One member laid, at whatever numbers. -/
def layW (un pk : Bool) (nm : ByteArray) (k bits sz ag : Int) (s : Lay) : Lay :=
  let bit := nextW pk bits sz ag (if un then 0 else s.at_)
  let w := if bits < 0 then 8 * sz else bits
  { at_ := wrap64 (bit + w), end_ := mx s.end_ (wrap64 (bit + w)), align := if !pk && !nm.toList.isEmpty then mx s.align ag else s.align, l := s.l ++ [{ bit := bit, bits := w, k := k }] }
theorem new_cells (W : World) (cs : Array Value) (T : TypeId) : ∀ j u, cs.toList[j]? = some u → (W.alloc (.cells cs T)).cell? ((⟨W.heap.size, 0, none⟩ : Addr).add j) = some u := fun j u h => by
  rw [add_off _ rfl]
  simp only [Nat.zero_add]
  exact cell_new W cs T j u (by simpa using h)
theorem info48 : (Try.prog.info? 48).map (fun i => (i.zero, i.size, i.bytes)) = some (some (.agg #[.int .i64 0, .int .i64 0, .int .i64 0]), 3, 24) := by kernel_rfl
theorem mx_I64 {a b : Int} (h : I64 a) (k : I64 b) : I64 (mx a b) := by unfold mx; split <;> assumption
theorem keeps_app {C base n : Nat} {W0 W W1 : World} {S : Value} {L : List Value} (h : KeepsFrom C W0 W) (hr : W.ownsRow base 48 3 S n L) (hg : W.grownBy W1 S.ownBlock) : KeepsFrom C W0 W1 :=
  h.trans ((KeepsOthers.of_grownBy hg (fun j o e ho => by
    rcases hr.2 with ⟨rfl, _⟩ | ⟨g', cap, cur, rfl, _, hh, _⟩
    · simp [Value.ownBlock] at e
    · have : g' = j := by simpa [Value.ownBlock] using e
      subst this
      rw [hh] at ho
      cases ho
      rfl)).from _)
theorem sptC_snoc (L : List Spt) (s : Spt) : sptC (L ++ [s]) = sptC L ++ [.int .i64 s.bit, .int .i64 s.bits, .int .i64 s.k] := by simp [sptC]
theorem ret_i {a b : Int} (h : a = b) : Ending.returned (.int .i64 a) = .returned (.int .i64 b) := by rw [h]
end Go.Proofs.Ytcggghamnmflcaa
