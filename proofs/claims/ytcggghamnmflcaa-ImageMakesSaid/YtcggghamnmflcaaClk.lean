/- The walks of burinlaw12.longs and burinlaw12.shown. -/
import Derived.Test.YtcggghamnmflcaaClj
import Derived.Laws.IdiomStrings
namespace Go.Proofs.Ytcggghamnmflcaa
open Go Go.RowKit Go.Shelf
theorem results99 {tmps : Array Value} {W : World} {g : Nat} {v0 v1 v2 v3 v4 v5 v6 : Value} (h4 : tmps.getD 2 undef = .pointer (some ⟨g, 0, none⟩)) (h : Bk W g 38 #[v0, v1, v2, v3, v4, v5, v6]) : (results Try.f99 tmps).run Try.prog W = .ok (.agg #[v0, v1, v2, v3, v4, v5, v6]) W := by
  have c0 : W.cell? ⟨g, 0, none⟩ = some v0 := h.at_ (i := 0) rfl
  have c1 : W.cell? ⟨g, 1, none⟩ = some v1 := h.at_ (i := 1) rfl
  have c2 : W.cell? ⟨g, 2, none⟩ = some v2 := h.at_ (i := 2) rfl
  have c3 : W.cell? ⟨g, 3, none⟩ = some v3 := h.at_ (i := 3) rfl
  have c4 : W.cell? ⟨g, 4, none⟩ = some v4 := h.at_ (i := 4) rfl
  have c5 : W.cell? ⟨g, 5, none⟩ = some v5 := h.at_ (i := 5) rfl
  have c6 : W.cell? ⟨g, 6, none⟩ = some v6 := h.at_ (i := 6) rfl
  rw [Array.getD_eq_getD_getElem?] at h4
  simp [results, Try.results99, go_sem, h4, c0, c1, c2, c3, c4, c5, c6]
def int2 (k : Int) : Tp 2 := ({ sh := 1, k := k, n := 0, of := [], fs := [], pk := false, al := 0 } : Nd (Tp 1))
theorem int2_at (w : World) (k : Int) (hk : I64 k) : TyAt w 2 (int2 k) [.int .i64 1, .int .i64 k, .int .i64 0, .slice none 0 0, .slice none 0 0, .bool false, .int .i64 0] :=
  ⟨none, none, 0, 0, rfl, (i64d (n := 1) (by decide)), hk, (i64d (n := 0) (by decide)), (i64d (n := 0) (by decide)), Nat.le_refl _, Nat.le_refl _, by decide, by decide, fun i x h => by simp [int2] at h, fun i f h => by simp [int2] at h⟩
def longsT : Tp 2 := ({ sh := 4, k := 0, n := 0, of := [], fs := [⟨⟨#[97]⟩, intT 7, -1⟩, ⟨⟨#[98]⟩, intT 7, -1⟩], pk := false, al := 0 } : Nd (Tp 1))
def fldC (x : UInt8) : List Value := [.string ⟨#[x]⟩, .int .i64 1, .int .i64 7, .int .i64 0, .slice none 0 0, .slice none 0 0, .bool false, .int .i64 0, .int .i64 (-1)]
def longsC : Nat → List Value
  | 0 => []
  | 1 => fldC 97
  | _ => fldC 97 ++ fldC 98
theorem info56 : (Try.prog.info? 56).map (fun i => (i.zero, i.size, i.bytes)) = some (some (.agg #[.string ⟨#[]⟩, .int .i64 0, .int .i64 0, .int .i64 0, .slice none 0 0, .slice none 0 0, .bool false, .int .i64 0, .int .i64 0]), 9, 112) := by kernel_rfl
theorem ne_rowT {W : World} {g : Nat} {t E : TypeId} {cs : Array Value} (h : Bk W g t cs) (ht : t ≠ E) {base n z : Nat} {S : Value} {L : List Value} (hr : W.ownsRow base E z S n L) : some g ≠ S.ownBlock := fun e => by
  rcases hr.2 with ⟨rfl, _⟩ | ⟨g', cap, cur, rfl, _, hh, _⟩
  · simp [Value.ownBlock] at e
  · have : g = g' := by simpa [Value.ownBlock] using e
    subst this
    have h' : W.heap[g]? = some (.cells cs t (0, 0)) := h
    rw [h'] at hh
    simp at hh
    exact ht hh.2
theorem ownT {W : World} {E : TypeId} {base n z : Nat} {S : Value} {xs : List Value} (h : W.ownsRow base E z S n xs) : ∀ g, S.ownBlock = some g → base ≤ g ∧ g < W.heap.size := fun g hg => by
  rcases h.2 with ⟨rfl, _⟩ | ⟨g', cap, cur, rfl, hb, hh, _⟩
  · simp [Value.ownBlock] at hg
  · have : g' = g := by simpa [Value.ownBlock] using hg
    subst this
    exact ⟨hb, (Array.getElem?_eq_some_iff.1 hh).1⟩
theorem u8_list (w : World) (x : UInt8) : ∀ j (hj : j < [x].length), (w.alloc (.cells #[.int .u8 (x.toNat : Int)] 5)).cell? ((⟨w.heap.size, 0, none⟩ : Addr).add j) = some (.int .u8 ([x][j].toNat : Int)) := fun j hj => by
  obtain rfl : j = 0 := by simpa using hj
  exact new_cells w #[.int .u8 (x.toNat : Int)] 5 0 _ rfl
theorem conv_byte (w : World) (x : UInt8) : (convert 75 9 (.slice (some ⟨w.heap.size, 0, none⟩) 1 1)).run Try.prog (w.alloc (.cells #[.int .u8 (x.toNat : Int)] 5)) = .ok (.string ⟨#[x]⟩) (w.alloc (.cells #[.int .u8 (x.toNat : Int)] 5)) :=
  run_convert_bytes_back _ 75 9 5 ⟨w.heap.size, 0, none⟩ 1 [x] Try.underlying75 Try.underlying5 Try.underlying9 (u8_list w x)
theorem conv_97 (w : World) : (convert 75 9 (.slice (some ⟨w.heap.size, 0, none⟩) 1 1)).run Try.prog (w.alloc (.cells #[.int .u8 97] 5)) = .ok (.string ⟨#[97]⟩) (w.alloc (.cells #[.int .u8 97] 5)) := conv_byte w 97
theorem conv_98 (w : World) : (convert 75 9 (.slice (some ⟨w.heap.size, 0, none⟩) 1 1)).run Try.prog (w.alloc (.cells #[.int .u8 98] 5)) = .ok (.string ⟨#[98]⟩) (w.alloc (.cells #[.int .u8 98] 5)) := conv_byte w 98
theorem longs_at (W : World) {base : Nat} {S : Value} (h : W.ownsRow base 56 9 S 2 (longsC 2)) : ∃ (A : Option Addr) (c : Nat), S = .slice A 2 c ∧ TyAt W 2 longsT [.int .i64 4, .int .i64 0, .int .i64 0, .slice none 0 0, .slice A 2 c, .bool false, .int .i64 0] := by
  rcases h.2 with ⟨_, h0⟩ | ⟨g, cap, cur, rfl, hb, hh, h1, h2, _⟩
  · omega
  · refine ⟨some ⟨g, 0, none⟩, cap, rfl, ?_⟩
    have hc : ∀ j u, (longsC 2)[j]? = some u → W.cell? ⟨g, 0 + j, none⟩ = some u := fun j u hu => by
      have := h.cells (g := g) rfl j u hu
      rwa [add_off _ rfl] at this
    refine ⟨none, some ⟨g, 0, none⟩, 0, cap, rfl, (i64d (n := 4) (by decide)), (i64d (n := 0) (by decide)), (i64d (n := 0) (by decide)), (i64d (n := 0) (by decide)), Nat.le_refl _, h1, by decide, by simpa [maxLen] using h2, fun i x h => by simp [longsT] at h, fun i x hx => ?_⟩
    match i, hx with
    | 0, hx =>
      cases hx
      refine ⟨g, 0, _, rfl, rfl, (i64d (n := -1) (by decide)), by decide, fun j v hv => ?_, intT_at W 7 (i64d (by decide))⟩
      have hj : j < 9 := (List.getElem?_eq_some_iff.1 hv).1
      have := hc j v (by
        match j, hj, hv with
        | 0, _, hv | 1, _, hv | 2, _, hv | 3, _, hv | 4, _, hv | 5, _, hv | 6, _, hv | 7, _, hv | 8, _, hv => exact hv)
      simpa using this
    | 1, hx =>
      cases hx
      refine ⟨g, 0, _, rfl, rfl, (i64d (n := -1) (by decide)), by decide, fun j v hv => ?_, intT_at W 7 (i64d (by decide))⟩
      have hj : j < 9 := (List.getElem?_eq_some_iff.1 hv).1
      have := hc (9 + j) v (by
        match j, hj, hv with
        | 0, _, hv | 1, _, hv | 2, _, hv | 3, _, hv | 4, _, hv | 5, _, hv | 6, _, hv | 7, _, hv | 8, _, hv => exact hv)
      rw [show 0 + 1 * 9 + j = 0 + (9 + j) by omega]
      exact this
    | i + 2, hx => simp [longsT] at hx
structure LgI (w : World) (j : Nat) (S : Value) (W : World) : Prop where
  g2 : Bk W w.heap.size 38 #[.int .i64 0, .int .i64 0, .int .i64 0, .slice none 0 0, .slice none 0 0, .bool false, .int .i64 0]
  g3 : Bk W (w.heap.size + 1) 38 #[.int .i64 4, .int .i64 0, .int .i64 0, .slice none 0 0, S, .bool false, .int .i64 0]
  row : W.ownsRow (w.heap.size + 1 + 1) 56 9 S j (longsC j)
  bel : Below w.heap.size w W
  sz : w.heap.size + 1 + 1 ≤ W.heap.size
theorem LgI.step {w W w7 : World} {j : Nat} {S v' : Value} {o o' : Obj} {xs : List Value} (h : LgI w j S W) (hx : longsC j ++ xs = longsC (j + 1)) (hown : w7.ownsRow (w.heap.size + 1 + 1) 56 9 v' (j + 1) (longsC j ++ xs)) (hg : ((W.alloc o).alloc o').grownBy w7 S.ownBlock) :
    Bk w7 (w.heap.size + 1) 38 #[.int .i64 4, .int .i64 0, .int .i64 0, .slice none 0 0, S, .bool false, .int .i64 0] ∧ LgI w (j + 1) v' (w7.setCell ⟨w.heap.size + 1, 4, none⟩ v') := by
  have a2 := ((h.g2.alloc o).alloc o').grown hg (ne_rowT h.g2 (by decide) h.row)
  have a3 := ((h.g3.alloc o).alloc o').grown hg (ne_rowT h.g3 (by decide) h.row)
  rw [hx] at hown
  refine ⟨a3, a2.far (p := ⟨w.heap.size + 1, 4, none⟩) (by simp) v', ?_, hown.kept (row := some (w.heap.size + 1)) (grown_set w7 _ 4 _) (.inr (Ne.symm (ne_rowT a3 (by decide) hown))), ?_, ?_⟩
  · have e := a3.set_ 4 v'
    simp only [List.setIfInBounds_toArray, List.set_cons_zero, List.set_cons_succ] at e
    exact e
  · have h1 := bel_alloc (bel_alloc h.bel o) o'
    have h2 := h1.grown hg h1.size (fun k e => by have := (ownT h.row k e).1; omega)
    exact h2.setCell (p := ⟨w.heap.size + 1, 4, none⟩) (by simp) _
  · have h1 := hg.size
    have h2 := h.sz
    simp at h1 ⊢
    omega
attribute [local go_sem ↓] conv_97 conv_98
set_option maxRecDepth 100000 in
theorem longs_c (w : World) : Calls Try.prog 99 #[.int .i64 2] w fun e w' => ∃ (A : Option Addr) (c : Nat), e = .returned (.agg #[.int .i64 4, .int .i64 0, .int .i64 0, .slice none 0 0, .slice A 2 c, .bool false, .int .i64 0]) ∧ TyAt w' 2 longsT [.int .i64 4, .int .i64 0, .int .i64 0, .slice none 0 0, .slice A 2 c, .bool false, .int .i64 0] ∧ Below w.heap.size w w' := by
  go_enter Try.func99, Try.ntmps99
  go_wp2_with fail
  have g2 := (Bk.new w 38 #[.int .i64 0, .int .i64 0, .int .i64 0, .slice none 0 0, .slice none 0 0, .bool false, .int .i64 0]).alloc (.cells #[.int .i64 4, .int .i64 0, .int .i64 0, .slice none 0 0, .slice none 0 0, .bool false, .int .i64 0] 38)
  have g3 := Bk.new1 w (.cells #[.int .i64 0, .int .i64 0, .int .i64 0, .slice none 0 0, .slice none 0 0, .bool false, .int .i64 0] 38) 38 #[.int .i64 4, .int .i64 0, .int .i64 0, .slice none 0 0, .slice none 0 0, .bool false, .int .i64 0]
  have hb := bel_alloc (bel_alloc (Below.refl _ w) (.cells #[.int .i64 0, .int .i64 0, .int .i64 0, .slice none 0 0, .slice none 0 0, .bool false, .int .i64 0] 38)) (.cells #[.int .i64 4, .int .i64 0, .int .i64 0, .slice none 0 0, .slice none 0 0, .bool false, .int .i64 0] 38)
  have hz : ((w.alloc (.cells #[.int .i64 0, .int .i64 0, .int .i64 0, .slice none 0 0, .slice none 0 0, .bool false, .int .i64 0] 38)).alloc (.cells #[.int .i64 4, .int .i64 0, .int .i64 0, .slice none 0 0, .slice none 0 0, .bool false, .int .i64 0] 38)).heap.size = w.heap.size + 1 + 1 := by simp
  generalize hW : World.alloc (World.alloc w _) _ = W1 at g2 g3 hb hz ⊢
  clear hW
  go_loopw [4] (fun s4 wr => ∃ (j : Nat) (S : Value), j ≤ 2 ∧ s4 = .int .i64 j ∧ LgI w j S wr) (fun i _ => 2 - (intOf i).toNat)
  case atStart => exact ⟨0, .slice none 0 0, by omega, rfl, g2, g3, World.ownsRow_nil _ _ _ _, hb, by omega⟩
  case round =>
    clear g2 g3 hb
    obtain ⟨j, S, hj, rfl, hI⟩ := hrel
    obtain ⟨i0, hi0, hz0', hz1', hz2'⟩ := info_parts info56
    have u4 := hI.g3.at_ (i := 4) rfl
    have HI := Lib.hid hI
    obtain rfl | rfl | rfl : j = 0 ∨ j = 1 ∨ j = 2 := by omega
    · clear hI
      go_wp2_with (at_builtin; refine wpList_append_own _ rfl (.tmp 12) (.tmp 20) 36 rfl (w.heap.size + 1 + 1) 56 i0 _ 9 112 Try.underlying36 hi0 hz0' hz1' hz2' rfl (by decide) S 0 (longsC 0) rfl ((HI.out.row.alloc _).alloc _) ⟨wr.heap.size + 1, 0, none⟩ 1 1 [.string ⟨#[97]⟩, .int .i64 1, .int .i64 7, .int .i64 0, .slice none 0 0, .slice none 0 0, .bool false, .int .i64 0, .int .i64 (-1)] rfl rfl (new_cells1 _ _ _ _) (by simp [Value.oneCell']) (by unfold maxLen; omega) (by omega) (by have := HI.out.sz; simp; omega) ?_; intro v' w7 hown' hgrow _; obtain ⟨g', cap', rfl⟩ := ownsRow_succ hown'; obtain ⟨a3, hn⟩ := HI.out.step (by rfl) hown' hgrow; have a4 := a3.at_ (i := 4) rfl; have f4 := a3.frozen 4; have HN := Lib.hid hn; clear hown' hgrow hn a3)
      go_roundw
      case rel => exact ⟨1, _, by omega, by go_num, HN.out⟩
      case measure => simp [intOf]
    · clear hI
      go_wp2_with (at_builtin; refine wpList_append_own _ rfl (.tmp 12) (.tmp 20) 36 rfl (w.heap.size + 1 + 1) 56 i0 _ 9 112 Try.underlying36 hi0 hz0' hz1' hz2' rfl (by decide) S 1 (longsC 1) rfl ((HI.out.row.alloc _).alloc _) ⟨wr.heap.size + 1, 0, none⟩ 1 1 [.string ⟨#[98]⟩, .int .i64 1, .int .i64 7, .int .i64 0, .slice none 0 0, .slice none 0 0, .bool false, .int .i64 0, .int .i64 (-1)] rfl rfl (new_cells1 _ _ _ _) (by simp [Value.oneCell']) (by unfold maxLen; omega) (by omega) (by have := HI.out.sz; simp; omega) ?_; intro v' w7 hown' hgrow _; obtain ⟨g', cap', rfl⟩ := ownsRow_succ hown'; obtain ⟨a3, hn⟩ := HI.out.step (by rfl) hown' hgrow; have a4 := a3.at_ (i := 4) rfl; have f4 := a3.frozen 4; have HN := Lib.hid hn; clear hown' hgrow hn a3)
      go_roundw
      case rel => exact ⟨2, _, by omega, by go_num, HN.out⟩
      case measure => simp [intOf]
    · have g2 := hI.g2
      have g3 := hI.g3
      obtain ⟨A, c, rfl, -⟩ := longs_at _ hI.row
      have hne := Ne.symm (ne_rowT g2 (by decide) hI.row)
      clear hI
      have c0 := g3.at_ (i := 0) rfl; have c1 := g3.at_ (i := 1) rfl; have c2 := g3.at_ (i := 2) rfl; have c3 := g3.at_ (i := 3) rfl; have c5 := g3.at_ (i := 5) rfl; have c6 := g3.at_ (i := 6) rfl
      have f0 := g2.frozen 0; have f1 := g2.frozen 1; have f2 := g2.frozen 2; have f3 := g2.frozen 3; have f4 := g2.frozen 4; have f5 := g2.frozen 5; have f6 := g2.frozen 6
      have z0 := g2.at_ (i := 0) rfl; have z1 := g2.at_ (i := 1) rfl; have z2 := g2.at_ (i := 2) rfl; have z3 := g2.at_ (i := 3) rfl; have z4 := g2.at_ (i := 4) rfl; have z5 := g2.at_ (i := 5) rfl; have z6 := g2.at_ (i := 6) rfl
      go_wp2_with fail
      have hI0 := HI.out
      have hre := (((((((g2.set_ 0 (.int .i64 4)).set_ 1 (.int .i64 0)).set_ 2 (.int .i64 0)).set_ 3 (.slice none 0 0)).set_ 4 (.slice A 2 c)).set_ 5 (.bool false)).set_ 6 (.int .i64 0))
      have hrw := (((((((hI0.row.kept (row := some w.heap.size) (grown_set _ w.heap.size 0 (.int .i64 4)) (.inr hne)).kept (row := some w.heap.size) (grown_set _ w.heap.size 1 (.int .i64 0)) (.inr hne)).kept (row := some w.heap.size) (grown_set _ w.heap.size 2 (.int .i64 0)) (.inr hne)).kept (row := some w.heap.size) (grown_set _ w.heap.size 3 (.slice none 0 0)) (.inr hne)).kept (row := some w.heap.size) (grown_set _ w.heap.size 4 (.slice A 2 c)) (.inr hne)).kept (row := some w.heap.size) (grown_set _ w.heap.size 5 (.bool false)) (.inr hne)).kept (row := some w.heap.size) (grown_set _ w.heap.size 6 (.int .i64 0)) (.inr hne))
      have hbl := (((((((hI0.bel.setCell (p := ⟨w.heap.size, 0, none⟩) (Nat.le_refl _) (.int .i64 4)).setCell (p := ⟨w.heap.size, 1, none⟩) (Nat.le_refl _) (.int .i64 0)).setCell (p := ⟨w.heap.size, 2, none⟩) (Nat.le_refl _) (.int .i64 0)).setCell (p := ⟨w.heap.size, 3, none⟩) (Nat.le_refl _) (.slice none 0 0)).setCell (p := ⟨w.heap.size, 4, none⟩) (Nat.le_refl _) (.slice A 2 c)).setCell (p := ⟨w.heap.size, 5, none⟩) (Nat.le_refl _) (.bool false)).setCell (p := ⟨w.heap.size, 6, none⟩) (Nat.le_refl _) (.int .i64 0))
      simp only [List.setIfInBounds_toArray, List.set_cons_zero, List.set_cons_succ] at hre
      clear z0 z1 z2 z3 z4 z5 z6 f0 f1 f2 f3 f4 f5 f6 c0 c1 c2 c3 c5 c6 u4 hI0
      generalize World.setCell _ _ _ = W9 at hre hrw hbl ⊢
      obtain ⟨A', c', he, hty⟩ := longs_at _ hrw
      cases he
      exact bodyPost_ret (results99 rfl hre) rfl ⟨A, c, rfl, hty, hbl⟩
def shownTs : List (Tp 2) := [int2 5, int2 5, int2 5, int2 5, int2 5, longsT, int2 5]
def i5C : List Value := [.int .i64 1, .int .i64 5, .int .i64 0, .slice none 0 0, .slice none 0 0, .bool false, .int .i64 0]
theorem shown_pe : passE 2 1 shownTs emptyT = 0 := by kernel_rfl
theorem shown_pn : passN 2 1 shownTs emptyT = 16 := by kernel_rfl
theorem shown_pl : passL 2 1 shownTs emptyT = [⟨0, 0, 0, 0⟩, ⟨1, 0, 1, 0⟩, ⟨2, 0, 2, 0⟩, ⟨3, 0, 3, 0⟩, ⟨4, 0, 4, 0⟩, ⟨5, 0, -1, 0⟩, ⟨5, 1, -1, 8⟩, ⟨6, 0, 5, 0⟩] := by kernel_rfl
theorem row7 {w : World} {g : Nat} {t : TypeId} {C : Array Value} (h : Bk w g t C) (i : Nat) (l : List Value) (hl : l.length = 7) (he : ∀ j, j < 7 → C[0 + i * 7 + j]? = l[j]?) : Row w g (0 + i * 7) l := fun j v hv => by
  have hj : j < 7 := by rw [← hl]; exact (List.getElem?_eq_some_iff.1 hv).1
  exact h.at_ ((he j hj).trans hv)
theorem shown_tys {w w3 : World} {g : Nat} {t : TypeId} {A : Option Addr} {c : Nat} (hty : TyAt w 2 longsT [.int .i64 4, .int .i64 0, .int .i64 0, .slice none 0 0, .slice A 2 c, .bool false, .int .i64 0]) (hb : Below w.heap.size w w3)
    (h : Bk w3 g t #[.int .i64 1, .int .i64 5, .int .i64 0, .slice none 0 0, .slice none 0 0, .bool false, .int .i64 0, .int .i64 1, .int .i64 5, .int .i64 0, .slice none 0 0, .slice none 0 0, .bool false, .int .i64 0, .int .i64 1, .int .i64 5, .int .i64 0, .slice none 0 0, .slice none 0 0, .bool false, .int .i64 0,
      .int .i64 1, .int .i64 5, .int .i64 0, .slice none 0 0, .slice none 0 0, .bool false, .int .i64 0, .int .i64 1, .int .i64 5, .int .i64 0, .slice none 0 0, .slice none 0 0, .bool false, .int .i64 0, .int .i64 4, .int .i64 0, .int .i64 0, .slice none 0 0, .slice A 2 c, .bool false, .int .i64 0, .int .i64 1, .int .i64 5, .int .i64 0, .slice none 0 0, .slice none 0 0, .bool false, .int .i64 0]) : TysAt w3 2 (some ⟨g, 0, none⟩) shownTs := fun i x hx => by
  have h5 : ∀ i, i < 7 → i ≠ 5 → shownTs[i]? = some (int2 5) := fun i hi h5 => by
    match i, hi, h5 with
    | 0, _, _ | 1, _, _ | 2, _, _ | 3, _, _ | 4, _, _ | 6, _, _ => rfl
  have hi : i < 7 := (List.getElem?_eq_some_iff.1 hx).1
  by_cases hi5 : i = 5
  · subst hi5
    cases hx
    exact ⟨g, 0, _, rfl, rfl, row7 h 5 _ rfl (fun j hj => by
      match j, hj with
      | 0, _ | 1, _ | 2, _ | 3, _ | 4, _ | 5, _ | 6, _ => rfl), hty.below hb⟩
  · rw [h5 i hi hi5] at hx
    cases hx
    refine ⟨g, 0, _, rfl, rfl, row7 h i i5C rfl (fun j hj => ?_), int2_at w3 5 (i64d (by decide))⟩
    match i, hi, hi5, j, hj with
    | 0, _, _, 0, _ | 0, _, _, 1, _ | 0, _, _, 2, _ | 0, _, _, 3, _ | 0, _, _, 4, _ | 0, _, _, 5, _ | 0, _, _, 6, _ => rfl
    | 1, _, _, 0, _ | 1, _, _, 1, _ | 1, _, _, 2, _ | 1, _, _, 3, _ | 1, _, _, 4, _ | 1, _, _, 5, _ | 1, _, _, 6, _ => rfl
    | 2, _, _, 0, _ | 2, _, _, 1, _ | 2, _, _, 2, _ | 2, _, _, 3, _ | 2, _, _, 4, _ | 2, _, _, 5, _ | 2, _, _, 6, _ => rfl
    | 3, _, _, 0, _ | 3, _, _, 1, _ | 3, _, _, 2, _ | 3, _, _, 3, _ | 3, _, _, 4, _ | 3, _, _, 5, _ | 3, _, _, 6, _ => rfl
    | 4, _, _, 0, _ | 4, _, _, 1, _ | 4, _, _, 2, _ | 4, _, _, 3, _ | 4, _, _, 4, _ | 4, _, _, 5, _ | 4, _, _, 6, _ => rfl
    | 6, _, _, 0, _ | 6, _, _, 1, _ | 6, _, _, 2, _ | 6, _, _, 3, _ | 6, _, _, 4, _ | 6, _, _, 5, _ | 6, _, _, 6, _ => rfl
theorem s64_below {w w' : World} {g : Nat} (h : w.cell? ⟨g, 0, none⟩ = some (.int .i64 1) ∧ w.cell? ⟨g, 1, none⟩ = some (.int .i64 5) ∧ w.cell? ⟨g, 2, none⟩ = some (.int .i64 0) ∧ w.cell? ⟨g, 3, none⟩ = some (.slice none 0 0) ∧ w.cell? ⟨g, 4, none⟩ = some (.slice none 0 0) ∧ w.cell? ⟨g, 5, none⟩ = some (.bool false) ∧ w.cell? ⟨g, 6, none⟩ = some (.int .i64 0)) (hb : Below w.heap.size w w') :
    w'.cell? ⟨g, 0, none⟩ = some (.int .i64 1) ∧ w'.cell? ⟨g, 1, none⟩ = some (.int .i64 5) ∧ w'.cell? ⟨g, 2, none⟩ = some (.int .i64 0) ∧ w'.cell? ⟨g, 3, none⟩ = some (.slice none 0 0) ∧ w'.cell? ⟨g, 4, none⟩ = some (.slice none 0 0) ∧ w'.cell? ⟨g, 5, none⟩ = some (.bool false) ∧ w'.cell? ⟨g, 6, none⟩ = some (.int .i64 0) := by
  obtain ⟨h0, h1, h2, h3, h4, h5, h6⟩ := h
  exact ⟨bel_cell hb h0, bel_cell hb h1, bel_cell hb h2, bel_cell hb h3, bel_cell hb h4, bel_cell hb h5, bel_cell hb h6⟩
def shownL : List Plw := [⟨0, 0, 0, 0⟩, ⟨1, 0, 1, 0⟩, ⟨2, 0, 2, 0⟩, ⟨3, 0, 3, 0⟩, ⟨4, 0, 4, 0⟩, ⟨5, 0, -1, 0⟩, ⟨5, 1, -1, 8⟩, ⟨6, 0, 5, 0⟩]
theorem shown_pass {w : World} {A : Option Addr} (hT : TysAt w 2 A shownTs) : Calls Try.prog 67 #[.slice A 7 7, .agg #[.int .i64 0, .int .i64 0, .int .i64 0, .slice none 0 0, .slice none 0 0, .bool false, .int .i64 0]] w fun e w' => ∃ (B : Option Addr) (n c' : Nat), e = .returned (.tuple #[.slice B n c', .int .i64 16, .int .i64 0]) ∧ PlwsAt w' B n shownL ∧ Below w.heap.size w w' := by
  have h := pass_c shownTs A 7 emptyT _ _ _ _ _ _ _ w hT (by decide) (emptyT_at w)
  rw [shown_pe, shown_pn, shown_pl] at h
  exact h
set_option maxRecDepth 100000 in
set_option maxHeartbeats 2000000 in
theorem shown64_c (w : World) : Calls Try.prog 64 #[] w fun e w' => e = .returned (.bool true) ∧ Below w.heap.size w w' := by
  go_enter Try.func64, Try.ntmps64
  go_wp2_with fail
  have h1 := Bk.new w 38 #[.int .i64 1, .int .i64 5, .int .i64 0, .slice none 0 0, .slice none 0 0, .bool false, .int .i64 0]
  have hb1 := bel_alloc (Below.refl _ w) (.cells #[.int .i64 1, .int .i64 5, .int .i64 0, .slice none 0 0, .slice none 0 0, .bool false, .int .i64 0] 38)
  generalize World.alloc w _ = W1 at h1 hb1 ⊢
  have c0 := h1.at_ (i := 0) rfl; have c1 := h1.at_ (i := 1) rfl; have c2 := h1.at_ (i := 2) rfl; have c3 := h1.at_ (i := 3) rfl; have c4 := h1.at_ (i := 4) rfl; have c5 := h1.at_ (i := 5) rfl; have c6 := h1.at_ (i := 6) rfl
  have HB1 := Lib.hid hb1
  clear hb1 h1
  go_region_held3 (fun w' => w'.cell? ⟨w.heap.size, 0, none⟩ = some (.int .i64 1) ∧ w'.cell? ⟨w.heap.size, 1, none⟩ = some (.int .i64 5) ∧ w'.cell? ⟨w.heap.size, 2, none⟩ = some (.int .i64 0) ∧ w'.cell? ⟨w.heap.size, 3, none⟩ = some (.slice none 0 0) ∧ w'.cell? ⟨w.heap.size, 4, none⟩ = some (.slice none 0 0) ∧ w'.cell? ⟨w.heap.size, 5, none⟩ = some (.bool false) ∧ w'.cell? ⟨w.heap.size, 6, none⟩ = some (.int .i64 0)) (first | (exact ⟨c0, c1, c2, c3, c4, c5, c6⟩) | (exact s64_below (by assumption) (by assumption)) | (exact s64_below (by assumption) (bel_alloc (Below.refl _ _) _))) (first | (go_at_call 99; refine (longs_c _).mono ?_; rintro e w2 ⟨A, c, rfl, hty, hb2⟩) | (go_at_call 67; refine (shown_pass (shown_tys hty (bel_alloc (Below.refl _ _) _) (Bk.new _ _ _))).mono ?_; rintro e w4 ⟨B, n, c', rfl, hP, hb4⟩; have HP := Lib.hid hP; have HB4 := Lib.hid (bel_then (bel_alloc (Below.refl _ _) _) hb4); clear hP))
  have HB := Lib.hid (bel_then (bel_then (bel_drew HB1.out) hb2) HB4.out)
  obtain rfl : n = 8 := HP.out.1
  obtain ⟨b, o, rfl, -, -, x5, -⟩ := HP.out.2 5 _ rfl
  obtain ⟨b', o', he, -, -, -, x6⟩ := HP.out.2 6 _ rfl
  cases he
  obtain ⟨b', o', he, -, -, x7, -⟩ := HP.out.2 7 _ rfl
  cases he
  simp only [Nat.reduceMul, Nat.add_assoc, Nat.reduceAdd] at x5 x6 x7
  clear hty hb2 hb4 HP HB4 HB1 c0 c1 c2 c3 c4 c5 c6
  go_wp2_with fail
  go_ret
  exact ⟨rfl, HB.out⟩
end Go.Proofs.Ytcggghamnmflcaa
