/- The walks of burinlaw10.integer and burinlaw10.shown. -/
import Derived.Test.YtcggghamnmflcaaSri
namespace Go.Proofs.Ytcggghamnmflcaa
open Go Go.RowKit Go.Shelf
theorem results82 {tmps : Array Value} {W : World} {g : Nat} {v0 v1 v2 v3 v4 v5 v6 : Value} (h4 : tmps.getD 2 undef = .pointer (some ⟨g, 0, none⟩)) (h : Bk W g 38 #[v0, v1, v2, v3, v4, v5, v6]) : (results Try.f82 tmps).run Try.prog W = .ok (.agg #[v0, v1, v2, v3, v4, v5, v6]) W := by
  have c0 : W.cell? ⟨g, 0, none⟩ = some v0 := h.at_ (i := 0) rfl
  have c1 : W.cell? ⟨g, 1, none⟩ = some v1 := h.at_ (i := 1) rfl
  have c2 : W.cell? ⟨g, 2, none⟩ = some v2 := h.at_ (i := 2) rfl
  have c3 : W.cell? ⟨g, 3, none⟩ = some v3 := h.at_ (i := 3) rfl
  have c4 : W.cell? ⟨g, 4, none⟩ = some v4 := h.at_ (i := 4) rfl
  have c5 : W.cell? ⟨g, 5, none⟩ = some v5 := h.at_ (i := 5) rfl
  have c6 : W.cell? ⟨g, 6, none⟩ = some v6 := h.at_ (i := 6) rfl
  rw [Array.getD_eq_getD_getElem?] at h4
  simp [results, Try.results82, go_sem, h4, c0, c1, c2, c3, c4, c5, c6]
theorem integer_c (k : Int) (w : World) : Calls Try.prog 82 #[.int .i64 k] w fun e w' => e = .returned (.agg #[.int .i64 1, .int .i64 k, .int .i64 0, .slice none 0 0, .slice none 0 0, .bool false, .int .i64 0]) ∧ Below w.heap.size w w' := by
  go_enter Try.func82, Try.ntmps82
  go_wp2
  have hre := Bk.new w 38 #[.int .i64 1, .int .i64 k, .int .i64 0, .slice none 0 0, .slice none 0 0, .bool false, .int .i64 0]
  have hbe := bel_alloc (Below.refl _ w) (.cells #[.int .i64 1, .int .i64 k, .int .i64 0, .slice none 0 0, .slice none 0 0, .bool false, .int .i64 0] 38)
  generalize World.alloc w _ = W5 at hre hbe ⊢
  exact bodyPost_ret (results82 rfl hre) rfl ⟨rfl, hbe⟩
/-- An integer's type. -/
def intT (k : Int) : Tp 1 := ({ sh := 1, k := k, n := 0, of := [], fs := [], pk := false, al := 0 } : Nd Empty)
def shownT : Tp 2 := ({ sh := 4, k := 0, n := 0, of := [], fs := [⟨⟨#[97]⟩, intT 5, 3⟩, ⟨⟨#[98]⟩, intT 5, 30⟩, ⟨⟨#[99]⟩, intT 1, -1⟩], pk := false, al := 0 } : Nd (Tp 1))
theorem shown_err : errS 2 shownT = 0 := by kernel_rfl
theorem shown_box : boxD 2 shownT = ⟨12, 4, [⟨0, 3, 5⟩, ⟨32, 30, 5⟩, ⟨64, 8, 1⟩]⟩ := by kernel_rfl
theorem i64d {n : Int} (h : (-9223372036854775808 ≤ n && n ≤ 9223372036854775807) = true) : I64 n := by unfold I64; simpa using h
theorem intT_at (w : World) (k : Int) (hk : I64 k) : TyAt w 1 (intT k) [.int .i64 1, .int .i64 k, .int .i64 0, .slice none 0 0, .slice none 0 0, .bool false, .int .i64 0] :=
  ⟨none, none, 0, 0, rfl, (i64d (n := 1) (by decide)), hk, (i64d (n := 0) (by decide)), (i64d (n := 0) (by decide)), Nat.le_refl _, Nat.le_refl _, by decide, by decide, fun _ x _ => Empty.elim x, fun _ f _ => Empty.elim f.t⟩
def shownCells : Array Value := #[.string ⟨#[97]⟩, .int .i64 1, .int .i64 5, .int .i64 0, .slice none 0 0, .slice none 0 0, .bool false, .int .i64 0, .int .i64 3, .string ⟨#[98]⟩, .int .i64 1, .int .i64 5, .int .i64 0, .slice none 0 0, .slice none 0 0, .bool false, .int .i64 0, .int .i64 30, .string ⟨#[99]⟩, .int .i64 1, .int .i64 1, .int .i64 0, .slice none 0 0, .slice none 0 0, .bool false, .int .i64 0, .int .i64 (-1)]
theorem row_of_bk {w : World} {g : Nat} {t : TypeId} {cs : Array Value} (h : Bk w g t cs) (o : Nat) (l : List Value) (hl : ∀ j v, l[j]? = some v → cs[o + j]? = some v) : Row w g o l := fun j v hv => h.at_ (hl j v hv)
theorem pick3 {α : Type} {P : Nat → α → Prop} {a b c : α} (h0 : P 0 a) (h1 : P 1 b) (h2 : P 2 c) : ∀ i x, [a, b, c][i]? = some x → P i x
  | 0, _, h => by cases h; exact h0
  | 1, _, h => by cases h; exact h1
  | 2, _, h => by cases h; exact h2
  | i + 3, _, h => by simp at h
theorem shownT_at (W : World) (g : Nat) (t : TypeId) (h : Bk W g t shownCells) : TyAt W 2 shownT [.int .i64 4, .int .i64 0, .int .i64 0, .slice none 0 0, .slice (some ⟨g, 0, none⟩) 3 3, .bool false, .int .i64 0] := by
  refine ⟨none, some ⟨g, 0, none⟩, 0, 3, rfl, (i64d (n := 4) (by decide)), (i64d (n := 0) (by decide)), (i64d (n := 0) (by decide)), (i64d (n := 0) (by decide)), Nat.le_refl _, Nat.le_refl _, by decide, by decide, fun i x h => by simp [shownT] at h, ?_⟩
  refine pick3 ?_ ?_ ?_
  · exact ⟨g, 0, _, rfl, rfl, (i64d (n := 3) (by decide)), by decide, row_of_bk h _ _ (fun j v hv => by
      match j, hv with
      | 0, hv | 1, hv | 2, hv | 3, hv | 4, hv | 5, hv | 6, hv | 7, hv | 8, hv => exact hv
      | j + 9, hv => simp at hv), intT_at W 5 (i64d (by decide))⟩
  · exact ⟨g, 0, _, rfl, rfl, (i64d (n := 30) (by decide)), by decide, row_of_bk h _ _ (fun j v hv => by
      match j, hv with
      | 0, hv | 1, hv | 2, hv | 3, hv | 4, hv | 5, hv | 6, hv | 7, hv | 8, hv => exact hv
      | j + 9, hv => simp at hv), intT_at W 5 (i64d (by decide))⟩
  · exact ⟨g, 0, _, rfl, rfl, (i64d (n := (-1)) (by decide)), by decide, row_of_bk h _ _ (fun j v hv => by
      match j, hv with
      | 0, hv | 1, hv | 2, hv | 3, hv | 4, hv | 5, hv | 6, hv | 7, hv | 8, hv => exact hv
      | j + 9, hv => simp at hv), intT_at W 1 (i64d (by decide))⟩
theorem shown_sz : szS 2 shownT = 12 := by unfold szS; rw [shown_err, shown_box]; rfl
theorem shown_ag : agS 2 shownT = 4 := by unfold agS; rw [shown_err, shown_box]; rfl
theorem shown_mE : memE 2 shownT = 0 := by unfold memE; rw [shown_err]; rfl
theorem shown_mL : memL 2 shownT = [⟨0, 3, 5⟩, ⟨32, 30, 5⟩, ⟨64, 8, 1⟩] := by unfold memL; rw [if_pos ⟨shown_err, .inl rfl⟩, shown_box]
set_option maxRecDepth 100000 in
theorem shown44_c (w : World) : Calls Try.prog 44 #[] w fun e w' => e = .returned (.bool true) ∧ Below w.heap.size w w' := by
  go_enter Try.func44, Try.ntmps44
  go_wp2_with fail
  refine (integer_c _ _).mono ?_; rintro e w1 ⟨rfl, hb1⟩
  go_wp2_with fail
  refine (integer_c _ _).mono ?_; rintro e w2 ⟨rfl, hb2⟩
  go_wp2_with fail
  refine (integer_c _ _).mono ?_; rintro e w3 ⟨rfl, hb3⟩
  have hB3 := bel_then (bel_then hb1 hb2) hb3
  clear hb1 hb2 hb3
  go_wp2_with fail
  have hg := (Bk.new w3 56 shownCells).alloc (.cells #[.int .i64 4, .int .i64 0, .int .i64 0, .slice none 0 0, .slice (some ⟨w3.heap.size, 0, none⟩) 3 3, .bool false, .int .i64 0] 38)
  have ht := Bk.new1 w3 (.cells shownCells 56) 38 #[.int .i64 4, .int .i64 0, .int .i64 0, .slice none 0 0, .slice (some ⟨w3.heap.size, 0, none⟩) 3 3, .bool false, .int .i64 0]
  have hB4 := bel_alloc (bel_alloc hB3 (.cells shownCells 56)) (.cells #[.int .i64 4, .int .i64 0, .int .i64 0, .slice none 0 0, .slice (some ⟨w3.heap.size, 0, none⟩) 3 3, .bool false, .int .i64 0] 38)
  unfold shownCells at hg ht hB4
  generalize hW : World.alloc (World.alloc w3 _) _ = W4 at hg ht hB4 ⊢
  clear hW hB3
  have HG := Lib.hid (shownT_at W4 _ _ hg)
  have HB4 := Lib.hid hB4
  have HT := Lib.hid ht
  clear hg hB4
  have hS := ssize_c HG.out
  rw [shown_sz, shown_ag, shown_err] at hS
  refine hS.mono ?_
  rintro e w5 ⟨rfl, hb5⟩
  have ht5 := ht.below hb5 ht.lt
  clear ht
  have t0 := ht5.at_ (i := 0) rfl
  have t1 := ht5.at_ (i := 1) rfl
  have t2 := ht5.at_ (i := 2) rfl
  have t3 := ht5.at_ (i := 3) rfl
  have t4 := ht5.at_ (i := 4) rfl
  have t5 := ht5.at_ (i := 5) rfl
  have t6 := ht5.at_ (i := 6) rfl
  go_wp2_with fail
  have hM := members_c (HG.out.below hb5)
  rw [shown_mE, shown_mL] at hM
  refine hM.mono ?_
  rintro e w6 ⟨A, n, c, rfl, ⟨⟨hn, hx⟩, -⟩, hb6⟩
  obtain rfl : n = 3 := hn
  obtain ⟨b, o, rfl, x0, x1, x2⟩ := hx 1 _ rfl
  obtain ⟨b', o', hbo, y0, y1, y2⟩ := hx 2 _ rfl
  cases hbo
  simp only [Nat.one_mul] at x0 x1 x2
  clear hx
  have HB := Lib.hid (bel_then (bel_then HB4.out hb5) hb6)
  clear hb5 hb6 t0 t1 t2 t3 t4 t5 t6 x1 x2 y1 y2
  go_wp2_with fail
  go_ret
  exact ⟨rfl, HB.out⟩
end Go.Proofs.Ytcggghamnmflcaa
