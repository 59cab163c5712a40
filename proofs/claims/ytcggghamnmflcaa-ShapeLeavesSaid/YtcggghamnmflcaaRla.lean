/- The reference's leaves: its contract, and small laws on lists and worlds. -/
import Derived.Test.YtcggghamnmflcaaLvf
import Derived.Maps.AppendAt
namespace Go.Proofs.Ytcggghamnmflcaa
open Go Go.RowKit Go.Shelf
/-- From world W with slice v to world W' with slice v': only v's block was written, and v' is that one or a new one. -/
structure RTr (W : World) (v : Value) (W' : World) (v' : Value) : Prop where
  g : W.grownBy W' v.ownBlock
  o : v'.ownBlock = v.ownBlock ∨ ∃ k, v'.ownBlock = some k ∧ W.heap.size ≤ k
section
variable {W W1 W2 : World} {v v1 v2 : Value}
theorem RTr.refl (W : World) (v : Value) : RTr W v W v := ⟨⟨rfl, rfl, rfl, Nat.le_refl _, fun _ _ _ => rfl⟩, .inl rfl⟩
theorem RTr.trans (h : RTr W v W1 v1) (k : RTr W1 v1 W2 v2) : RTr W v W2 v2 := by
  refine ⟨⟨k.g.os.trans h.g.os, k.g.tape.trans h.g.tape, k.g.output.trans h.g.output, Nat.le_trans h.g.size k.g.size, fun i hi hne => ?_⟩, ?_⟩
  · refine (k.g.block i (Nat.lt_of_lt_of_le hi h.g.size) fun e => ?_).trans (h.g.block i hi hne)
    rcases h.o with ho | ⟨g, ho, hg⟩
    · exact hne (e.trans ho)
    · rw [ho] at e
      cases e
      omega
  · rcases k.o with ko | ⟨g, ko, hg⟩
    · rcases h.o with ho | ⟨g, ho, hg⟩
      · exact .inl (ko.trans ho)
      · exact .inr ⟨g, ko.trans ho, hg⟩
    · exact .inr ⟨g, ko, Nat.le_trans h.g.size hg⟩
theorem RTr.below (h : Below W.heap.size W W1) : RTr W v W1 v := ⟨⟨h.os, h.tape, h.output, h.size, fun i hi _ => h.block i hi⟩, .inl rfl⟩
theorem RTr.bk {g : Nat} {t : TypeId} {cs : Array Value} (h : RTr W v W1 v1) (hb : Bk W g t cs) (hne : some g ≠ v.ownBlock) : Bk W1 g t cs := (h.g.block g hb.lt hne).trans hb
theorem RTr.cell (h : RTr W v W1 v1) {a : Addr} {u : Value} (hc : W.cell? a = some u) (hne : some a.block ≠ v.ownBlock) : W1.cell? a = some u := (World.cell?_of_block (h.g.block _ (World.block_lt_of_cell? W a hc) hne)).trans hc
theorem RTr.low {w0 : World} (h : RTr W v W1 v1) (hw : Below w0.heap.size w0 W) (hv : ∀ g, v.ownBlock = some g → w0.heap.size ≤ g) : Below w0.heap.size w0 W1 := hw.grown h.g hw.size hv
theorem RTr.own {w0 : World} (h : RTr W v W1 v1) (hw : w0.heap.size ≤ W.heap.size) (hv : ∀ g, v.ownBlock = some g → w0.heap.size ≤ g) : ∀ g, v1.ownBlock = some g → w0.heap.size ≤ g := fun g hg => by
  rcases h.o with ho | ⟨k, ho, hk⟩
  · exact hv g (ho ▸ hg)
  · rw [ho] at hg; cases hg; omega
/-- An append. -/
theorem RTr.app {o : Obj} (hg : (W.alloc o).grownBy W1 v.ownBlock) (ha : v1.ownBlock = v.ownBlock ∨ v1.ownBlock = some (W.alloc o).heap.size) : RTr W v W1 v1 := by
  have hs : W.heap.size + 1 ≤ W1.heap.size := by have := hg.size; simpa using this
  refine ⟨⟨hg.os, hg.tape, hg.output, by omega, fun i hi hne => (hg.block i (by simp; omega) hne).trans (Below.heap_alloc W o i hi)⟩, ?_⟩
  rcases ha with ha | ha
  · exact .inl ha
  · exact .inr ⟨_, ha, by simp⟩
end
theorem own_of_row {W : World} {base n : Nat} {S : Value} {xs : List Value} (h : W.ownsRow base 48 3 S n xs) : ∀ g, S.ownBlock = some g → base ≤ g ∧ g < W.heap.size := fun g hg => by
  rcases h.2 with ⟨rfl, _⟩ | ⟨g', cap, cur, rfl, hb, hh, _⟩
  · simp [Value.ownBlock] at hg
  · have : g' = g := by simpa [Value.ownBlock] using hg
    subst this
    exact ⟨hb, lt_of_at hh⟩
theorem take_more {α : Type} {l m : List α} {n : Nat} (h : n ≤ (l.take n).length) : (l ++ m).take n = l.take n := by
  rw [List.length_take] at h
  rw [List.take_append_of_le_length (by omega)]
theorem take_join {α : Type} {l m k : List α} {n : Nat} (h : k = l.take n) : (k ++ m).take n = (l ++ m).take n := by
  subst h
  rcases Nat.lt_or_ge l.length n with h | h
  · rw [show l.take n = l from List.take_of_length_le (by omega)]
  · rw [List.take_append_of_le_length (by simp; omega), List.take_append_of_le_length h, List.take_take, Nat.min_self]
/-- What the reference's leaves is to answer. -/
def RLvC (d : Nat) : Prop := ∀ (w0 : World) (t : Tp d) (cs : List Value) (v0 v1 v2 v3 v4 v5 v6 : Value) (b : Bx) (fr : Int) (base : Nat) (v : Value) (L : List Spt) (w : World), cs = [v0, v1, v2, v3, v4, v5, v6] → TyAt w0 d t cs → Below w0.heap.size w0 w → plainS d t 6 = true → boxS d t = some b → 0 ≤ fr → fr + 8 * b.size ≤ 1000000 →
  w.ownsRow base 48 3 v L.length (sptC L) → w0.heap.size ≤ base → base ≤ w.heap.size → L.length ≤ 2001 →
  Calls Try.prog 88 #[v, .agg #[v0, v1, v2, v3, v4, v5, v6], .int .i64 fr] w fun e w' => ∃ v', e = .returned v' ∧ w'.ownsRow base 48 3 v' ((L ++ leavesS d t fr).take 2001).length (sptC ((L ++ leavesS d t fr).take 2001)) ∧ RTr w v w' v'
end Go.Proofs.Ytcggghamnmflcaa
