/- The reference's leaves: its contract, and small laws on lists and worlds. The reference's leaves at integers and pointers, and where nothing more may come. The reference's leaves at arrays. The reference's leaves at structs and unions. The contract of the reference's Leaves, and the law ShapeLeaves walked: whatever type. -/
import Derived.Test.YtcggghamnmflcaaLvf
import Derived.Maps.AppendAt
import Derived.Test.YtcggghamnmflcaaFlo
import Derived.Deep.RegionHeld3
import Derived.Deep.AppendLies
namespace Go.Proofs.Ytcggghamnmflcaa
open Go Go.RowKit Go.Shelf
/-- From world W with slice v to world W' with slice v': only v's block was written, and v' is that one or a new one. -/
structure RTr (W : World) (v : Value) (W' : World) (v' : Value) : Prop where
  g : W.grownBy W' v.ownBlock
  o : v'.ownBlock = v.ownBlock ∨ ∃ k, v'.ownBlock = some k ∧ W.heap.size ≤ k
section
variable {W W1 W2 : World} {v v1 v2 : Value}
theorem RTr.refl (W : World) (v : Value) : RTr W v W v := ⟨⟨rfl, rfl, rfl, Nat.le_refl _, fun _ _ _ => rfl⟩, .inl rfl⟩
theorem RTr.trans (h : RTr W v W1 v1) (k : RTr W1 v1 W2 v2) : RTr W v W2 v2 := by
  refine ⟨⟨k.g.os.trans h.g.os, k.g.tape.trans h.g.tape, k.g.output.trans h.g.output, Nat.le_trans h.g.size k.g.size, fun i hi hne => ?_⟩, ?_⟩
  · refine (k.g.block i (Nat.lt_of_lt_of_le hi h.g.size) fun e => ?_).trans (h.g.block i hi hne)
    rcases h.o with ho | ⟨g, ho, hg⟩
    · exact hne (e.trans ho)
    · rw [ho] at e
      cases e
      omega
  · rcases k.o with ko | ⟨g, ko, hg⟩
    · rcases h.o with ho | ⟨g, ho, hg⟩
      · exact .inl (ko.trans ho)
      · exact .inr ⟨g, ko.trans ho, hg⟩
    · exact .inr ⟨g, ko, Nat.le_trans h.g.size hg⟩
theorem RTr.below (h : Below W.heap.size W W1) : RTr W v W1 v := ⟨⟨h.os, h.tape, h.output, h.size, fun i hi _ => h.block i hi⟩, .inl rfl⟩
theorem RTr.bk {g : Nat} {t : TypeId} {cs : Array Value} (h : RTr W v W1 v1) (hb : Bk W g t cs) (hne : some g ≠ v.ownBlock) : Bk W1 g t cs := (h.g.block g hb.lt hne).trans hb
theorem RTr.cell (h : RTr W v W1 v1) {a : Addr} {u : Value} (hc : W.cell? a = some u) (hne : some a.block ≠ v.ownBlock) : W1.cell? a = some u := (World.cell?_of_block (h.g.block _ (World.block_lt_of_cell? W a hc) hne)).trans hc
theorem RTr.low {w0 : World} (h : RTr W v W1 v1) (hw : Below w0.heap.size w0 W) (hv : ∀ g, v.ownBlock = some g → w0.heap.size ≤ g) : Below w0.heap.size w0 W1 := hw.grown h.g hw.size hv
theorem RTr.own {w0 : World} (h : RTr W v W1 v1) (hw : w0.heap.size ≤ W.heap.size) (hv : ∀ g, v.ownBlock = some g → w0.heap.size ≤ g) : ∀ g, v1.ownBlock = some g → w0.heap.size ≤ g := fun g hg => by
  rcases h.o with ho | ⟨k, ho, hk⟩
  · exact hv g (ho ▸ hg)
  · rw [ho] at hg; cases hg; omega
/-- An append. -/
theorem RTr.app {o : Obj} (hg : (W.alloc o).grownBy W1 v.ownBlock) (ha : v1.ownBlock = v.ownBlock ∨ v1.ownBlock = some (W.alloc o).heap.size) : RTr W v W1 v1 := by
  have hs : W.heap.size + 1 ≤ W1.heap.size := by have := hg.size; simpa using this
  refine ⟨⟨hg.os, hg.tape, hg.output, by omega, fun i hi hne => (hg.block i (by simp; omega) hne).trans (Below.heap_alloc W o i hi)⟩, ?_⟩
  rcases ha with ha | ha
  · exact .inl ha
  · exact .inr ⟨_, ha, by simp⟩
end
theorem own_of_row {W : World} {base n : Nat} {S : Value} {xs : List Value} (h : W.ownsRow base 48 3 S n xs) : ∀ g, S.ownBlock = some g → base ≤ g ∧ g < W.heap.size := fun g hg => by
  rcases h.2 with ⟨rfl, _⟩ | ⟨g', cap, cur, rfl, hb, hh, _⟩
  · simp [Value.ownBlock] at hg
  · have : g' = g := by simpa [Value.ownBlock] using hg
    subst this
    exact ⟨hb, lt_of_at hh⟩
theorem take_more {α : Type} {l m : List α} {n : Nat} (h : n ≤ (l.take n).length) : (l ++ m).take n = l.take n := by
  rw [List.length_take] at h
  rw [List.take_append_of_le_length (by omega)]
theorem take_join {α : Type} {l m k : List α} {n : Nat} (h : k = l.take n) : (k ++ m).take n = (l ++ m).take n := by
  subst h
  rcases Nat.lt_or_ge l.length n with h | h
  · rw [show l.take n = l from List.take_of_length_le (by omega)]
  · rw [List.take_append_of_le_length (by simp; omega), List.take_append_of_le_length h, List.take_take, Nat.min_self]
/-- What the reference's leaves is to answer. -/
def RLvC (d : Nat) : Prop := ∀ (w0 : World) (t : Tp d) (cs : List Value) (v0 v1 v2 v3 v4 v5 v6 : Value) (b : Bx) (fr : Int) (base : Nat) (v : Value) (L : List Spt) (w : World), cs = [v0, v1, v2, v3, v4, v5, v6] → TyAt w0 d t cs → Below w0.heap.size w0 w → plainS d t 6 = true → boxS d t = some b → 0 ≤ fr → fr + 8 * b.size ≤ 1000000 →
  w.ownsRow base 48 3 v L.length (sptC L) → w0.heap.size ≤ base → base ≤ w.heap.size → L.length ≤ 2001 →
  Calls Try.prog 88 #[v, .agg #[v0, v1, v2, v3, v4, v5, v6], .int .i64 fr] w fun e w' => ∃ v', e = .returned v' ∧ w'.ownsRow base 48 3 v' ((L ++ leavesS d t fr).take 2001).length (sptC ((L ++ leavesS d t fr).take 2001)) ∧ RTr w v w' v'
end Go.Proofs.Ytcggghamnmflcaa
namespace Go.Proofs.Ytcggghamnmflcaa
open Go Go.RowKit Go.Shelf
theorem row_below {W W1 : World} {base n : Nat} {S : Value} {xs : List Value} (h : W.ownsRow base 48 3 S n xs) (hb : Below W.heap.size W W1) : W1.ownsRow base 48 3 S n xs := h.kept (grown_none hb) (by cases S.ownBlock <;> simp)
theorem new_cells1 (W : World) (o : Obj) (cs : Array Value) (T : TypeId) : ∀ j u, cs.toList[j]? = some u → ((W.alloc o).alloc (.cells cs T)).cell? ((⟨W.heap.size + 1, 0, none⟩ : Addr).add j) = some u := by
  have := new_cells (W.alloc o) cs T
  rwa [World.size_alloc] at this
set_option maxRecDepth 100000 in
set_option maxHeartbeats 4000000 in
theorem rlv_full {d : Nat} {t : Tp d} {v0 v1 v2 v3 v4 v5 v6 : Value} {fr : Int} {base : Nat} {v : Value} {L : List Spt} {w w0 : World} (ht : TyAt w0 d t [v0, v1, v2, v3, v4, v5, v6]) (hrow : w.ownsRow base 48 3 v L.length (sptC L)) (hL : L.length = 2001) :
    Calls Try.prog 88 #[v, .agg #[v0, v1, v2, v3, v4, v5, v6], .int .i64 fr] w fun e w' => ∃ v', e = .returned v' ∧ w'.ownsRow base 48 3 v' ((L ++ leavesS d t fr).take 2001).length (sptC ((L ++ leavesS d t fr).take 2001)) ∧ RTr w v w' v' := by
  obtain ⟨n0, A1, A2, n1, n2, c1, c2, pk, al, hcs⟩ := ht.form
  simp only [List.cons.injEq, and_true] at hcs
  obtain ⟨rfl, rfl, rfl, rfl, rfl, rfl, rfl⟩ := hcs
  obtain ⟨A, c, rfl, hsp⟩ := spts_of_row hrow
  have e1 : (L ++ leavesS d t fr).take 2001 = L := by
    rw [List.take_append_of_le_length (by omega), List.take_of_length_le (by omega)]
  rw [e1]
  have g1 : 2000 < L.length := by omega
  have g2 : L.length ≤ 9223372036854775807 := by omega
  clear hL ht e1
  go_enter Try.func88, Try.ntmps88
  go_wp2_with fail
  go_ret
  exact ⟨_, rfl, row_below hrow (bel_alloc (Below.refl _ _) _), RTr.below (bel_alloc (Below.refl _ _) _)⟩
set_option maxRecDepth 100000 in
set_option maxHeartbeats 4000000 in
theorem rlv_int {d : Nat} {t : Nd (Tp d)} {v0 v1 v2 v3 v4 v5 v6 : Value} {b : Bx} {fr : Int} {base : Nat} {v : Value} {L : List Spt} {w w0 : World} (ht : TyAt w0 (d + 1) t [v0, v1, v2, v3, v4, v5, v6]) (hw : Below w0.heap.size w0 w) (hp : plainS (d + 1) t 6 = true) (hbx : boxS (d + 1) t = some b) (_h1 : fr + 8 * b.size ≤ 1000000) (_h0 : 0 ≤ fr) (hs : t.sh = 1)
    (hrow : w.ownsRow base 48 3 v L.length (sptC L)) (hbs : base ≤ w.heap.size) (hL : L.length ≤ 2000) :
    Calls Try.prog 88 #[v, .agg #[v0, v1, v2, v3, v4, v5, v6], .int .i64 fr] w fun e w' => ∃ v', e = .returned v' ∧ w'.ownsRow base 48 3 v' ((L ++ leavesS (d + 1) t fr).take 2001).length (sptC ((L ++ leavesS (d + 1) t fr).take 2001)) ∧ RTr w v w' v' := by
  have HB := Lib.hid (fun w' (hb : Below w.heap.size w w') => box_c (d + 1) t 6 v0 v1 v2 v3 v4 v5 v6 w' hp (ht.below (hw.trans (hb.mono hw.size))))
  have hok := boxS_ok (d + 1) t 6 b hp hbx
  have hX : leavesS (d + 1) t fr = [⟨fr, 8 * ksize t.k, t.k⟩] := by
    show (if Nd.sh t = 1 then _ else _) = _
    rw [if_pos hs]
  obtain ⟨X, hXX⟩ : ∃ X, leavesS (d + 1) t fr = X := ⟨_, rfl⟩
  rw [hXX] at hX ⊢
  have hbz : b.size = ksize t.k := by have := boxS_int (d := d + 1) (t := t) hs; rw [hbx] at this; cases this; rfl
  obtain ⟨A1, A2, c1, c2, hcs, b1, b2, b3, b4, l1, l2, m1, m2, hof, hfs⟩ := id ht
  clear hof hfs
  simp only [List.cons.injEq, and_true] at hcs
  obtain ⟨rfl, rfl, rfl, rfl, rfl, rfl, rfl⟩ := hcs
  obtain ⟨A, c, rfl, hsp⟩ := spts_of_row hrow
  obtain ⟨sz, hsz⟩ : ∃ sz, b.size = sz := ⟨_, rfl⟩
  obtain ⟨sh, hsh⟩ : ∃ x, t.sh = x := ⟨_, rfl⟩
  obtain ⟨k, hk⟩ : ∃ x, t.k = x := ⟨_, rfl⟩
  rw [hsh] at hs
  subst hs
  rw [← hbz, hsz, hk] at hX
  rw [hsh, hk] at HB ⊢
  have hz1 : 1 ≤ sz := by have := hok.1; omega
  have hz2 : sz ≤ 65536 := by have := hok.2.1; omega
  have HX := Lib.hid hX
  have HBX := Lib.hid hbx
  have HSZ := Lib.hid hsz
  have HR := Lib.hid hrow
  clear hX hXX hbx hsz hsh hk hok hrow hsp ht hp hw hbz
  go_enter Try.func88, Try.ntmps88
  go_wp2_with fail
  refine (HB.out _ (bel_alloc (Below.refl _ _) _)).mono ?_
  rintro e w1 ⟨bsz, bag, big, xA, xn, xc, rfl, hb1, hx⟩
  obtain ⟨rfl, rfl⟩ : big = false ∧ bsz = sz := by
    rcases hx with ⟨h, _⟩ | ⟨b', h, e1, e2, _⟩
    · rw [HBX.out] at h; cases h
    · rw [HBX.out] at h; cases h; exact ⟨e1, e2.trans HSZ.out⟩
  have hT1 := (Bk.new w 38 #[.int .i64 1, .int .i64 k, .int .i64 t.n, .slice A1 t.of.length c1, .slice A2 t.fs.length c2, .bool t.pk, .int .i64 t.al]).below hb1 (by simp)
  have t0 := hT1.at_ (i := 0) rfl
  have t1 := hT1.at_ (i := 1) rfl
  have hb2 := bel_alloc (bel_then (bel_alloc (Below.refl _ _) _) hb1) (.cells #[.int .i64 bsz, .int .i64 bag, .bool false, .slice xA xn xc] 58)
  have hrow2 := row_below HR.out hb2
  have hs2 := hb2.size
  have hlt1 := hT1.lt
  obtain ⟨i0, hi0, hz0', hz1', hz2'⟩ := info_parts info48
  have HB2 := Lib.hid hb2
  clear hb1 hx hb2
  go_wp2_with (at_builtin; refine wpList_append_own_at _ rfl (.tmp 22) (.tmp 30) 42 rfl base 48 i0 _ 3 24 Try.underlying42 hi0 hz0' hz1' hz2' rfl (by decide) _ _ _ rfl (hrow2.alloc _) ⟨w1.heap.size + 1, 0, none⟩ 1 1 [.int .i64 fr, .int .i64 (8 * bsz), .int .i64 k] rfl rfl (new_cells1 _ _ _ _) (by simp [Value.oneCell']) (by unfold maxLen; omega) (by omega) (by simp at hs2 ⊢; omega) ?_; intro v7 w7 hown' hgrow _ hat; have HG := Lib.hid hgrow; have HO := Lib.hid hown'; have HA := Lib.hid hat; clear hgrow hown' hat)
  go_ret
  have hO : w7.ownsRow base 48 3 v7 (L ++ [(⟨fr, 8 * bsz, k⟩ : Spt)]).length (sptC (L ++ [(⟨fr, 8 * bsz, k⟩ : Spt)])) := by
    rw [sptC_snoc, List.length_append]
    exact HO.out
  have e1 : (L ++ X).take 2001 = L ++ [⟨fr, 8 * bsz, k⟩] := by rw [HX.out, List.take_of_length_le (by simp; omega)]
  refine ⟨_, rfl, ?_, (RTr.below HB2.out).trans (RTr.app HG.out HA.out)⟩
  rw [e1]
  exact hO
set_option maxRecDepth 100000 in
set_option maxHeartbeats 4000000 in
theorem rlv_ptr {d : Nat} {t : Nd (Tp d)} {v0 v1 v2 v3 v4 v5 v6 : Value} {b : Bx} {fr : Int} {base : Nat} {v : Value} {L : List Spt} {w w0 : World} (ht : TyAt w0 (d + 1) t [v0, v1, v2, v3, v4, v5, v6]) (hw : Below w0.heap.size w0 w) (hp : plainS (d + 1) t 6 = true) (hbx : boxS (d + 1) t = some b) (_h1 : fr + 8 * b.size ≤ 1000000) (_h0 : 0 ≤ fr) (hs : t.sh = 2)
    (hrow : w.ownsRow base 48 3 v L.length (sptC L)) (hbs : base ≤ w.heap.size) (hL : L.length ≤ 2000) :
    Calls Try.prog 88 #[v, .agg #[v0, v1, v2, v3, v4, v5, v6], .int .i64 fr] w fun e w' => ∃ v', e = .returned v' ∧ w'.ownsRow base 48 3 v' ((L ++ leavesS (d + 1) t fr).take 2001).length (sptC ((L ++ leavesS (d + 1) t fr).take 2001)) ∧ RTr w v w' v' := by
  have HB := Lib.hid (fun w' (hb : Below w.heap.size w w') => box_c (d + 1) t 6 v0 v1 v2 v3 v4 v5 v6 w' hp (ht.below (hw.trans (hb.mono hw.size))))
  have hok := boxS_ok (d + 1) t 6 b hp hbx
  have hX : leavesS (d + 1) t fr = [⟨fr, 64, 8⟩] := by
    show (if Nd.sh t = 1 then _ else _) = _
    rw [if_neg (by omega), if_pos hs]
  obtain ⟨X, hXX⟩ : ∃ X, leavesS (d + 1) t fr = X := ⟨_, rfl⟩
  rw [hXX] at hX ⊢
  obtain ⟨A1, A2, c1, c2, hcs, b1, b2, b3, b4, l1, l2, m1, m2, hof, hfs⟩ := id ht
  clear hof hfs
  simp only [List.cons.injEq, and_true] at hcs
  obtain ⟨rfl, rfl, rfl, rfl, rfl, rfl, rfl⟩ := hcs
  obtain ⟨A, c, rfl, hsp⟩ := spts_of_row hrow
  obtain ⟨sz, hsz⟩ : ∃ sz, b.size = sz := ⟨_, rfl⟩
  obtain ⟨sh, hsh⟩ : ∃ x, t.sh = x := ⟨_, rfl⟩
  obtain ⟨k, hk⟩ : ∃ x, t.k = x := ⟨_, rfl⟩
  rw [hsh] at hs
  subst hs
  rw [hsh, hk] at HB ⊢
  have hz1 : 1 ≤ sz := by have := hok.1; omega
  have hz2 : sz ≤ 65536 := by have := hok.2.1; omega
  have HX := Lib.hid hX
  have HBX := Lib.hid hbx
  have HSZ := Lib.hid hsz
  have HR := Lib.hid hrow
  clear hX hXX hbx hsz hsh hk hok hrow hsp ht hp hw 
  go_enter Try.func88, Try.ntmps88
  go_wp2_with fail
  refine (HB.out _ (bel_alloc (Below.refl _ _) _)).mono ?_
  rintro e w1 ⟨bsz, bag, big, xA, xn, xc, rfl, hb1, hx⟩
  obtain ⟨rfl, rfl⟩ : big = false ∧ bsz = sz := by
    rcases hx with ⟨h, _⟩ | ⟨b', h, e1, e2, _⟩
    · rw [HBX.out] at h; cases h
    · rw [HBX.out] at h; cases h; exact ⟨e1, e2.trans HSZ.out⟩
  have hT1 := (Bk.new w 38 #[.int .i64 2, .int .i64 k, .int .i64 t.n, .slice A1 t.of.length c1, .slice A2 t.fs.length c2, .bool t.pk, .int .i64 t.al]).below hb1 (by simp)
  have t0 := hT1.at_ (i := 0) rfl
  have t1 := hT1.at_ (i := 1) rfl
  have hb2 := bel_alloc (bel_then (bel_alloc (Below.refl _ _) _) hb1) (.cells #[.int .i64 bsz, .int .i64 bag, .bool false, .slice xA xn xc] 58)
  have hrow2 := row_below HR.out hb2
  have hs2 := hb2.size
  have hlt1 := hT1.lt
  obtain ⟨i0, hi0, hz0', hz1', hz2'⟩ := info_parts info48
  have HB2 := Lib.hid hb2
  clear hb1 hx hb2
  go_wp2_with (at_builtin; refine wpList_append_own_at _ rfl (.tmp 34) (.tmp 37) 42 rfl base 48 i0 _ 3 24 Try.underlying42 hi0 hz0' hz1' hz2' rfl (by decide) _ _ _ rfl (hrow2.alloc _) ⟨w1.heap.size + 1, 0, none⟩ 1 1 [.int .i64 fr, .int .i64 64, .int .i64 8] rfl rfl (new_cells1 _ _ _ _) (by simp [Value.oneCell']) (by unfold maxLen; omega) (by omega) (by simp at hs2 ⊢; omega) ?_; intro v7 w7 hown' hgrow _ hat; have HG := Lib.hid hgrow; have HO := Lib.hid hown'; have HA := Lib.hid hat; clear hgrow hown' hat)
  go_ret
  have hO : w7.ownsRow base 48 3 v7 (L ++ [(⟨fr, 64, 8⟩ : Spt)]).length (sptC (L ++ [(⟨fr, 64, 8⟩ : Spt)])) := by
    rw [sptC_snoc, List.length_append]
    exact HO.out
  have e1 : (L ++ X).take 2001 = L ++ [⟨fr, 64, 8⟩] := by rw [HX.out, List.take_of_length_le (by simp; omega)]
  refine ⟨_, rfl, ?_, (RTr.below HB2.out).trans (RTr.app HG.out HA.out)⟩
  rw [e1]
  exact hO
end Go.Proofs.Ytcggghamnmflcaa
namespace Go.Proofs.Ytcggghamnmflcaa
open Go Go.RowKit Go.Shelf
theorem flat_more {α : Type} {f : Nat → List α} {L : List α} {j N n : Nat} (hj : j ≤ N) (h : j = N ∨ n ≤ ((L ++ (List.range j).flatMap f).take n).length) : (L ++ (List.range N).flatMap f).take n = (L ++ (List.range j).flatMap f).take n := by
  rcases h with rfl | h
  · rfl
  · obtain ⟨k, rfl⟩ : ∃ k, N = j + k := ⟨N - j, by omega⟩
    rw [List.range_add, List.flatMap_append, ← List.append_assoc]
    exact take_more h
set_option maxRecDepth 100000 in
set_option maxHeartbeats 8000000 in
theorem rlv_arr {d : Nat} (IH : RLvC d) {t : Nd (Tp d)} {v0 v1 v2 v3 v4 v5 v6 : Value} {b : Bx} {fr : Int} {base : Nat} {v : Value} {L : List Spt} {w w0 : World} (ht : TyAt w0 (d + 1) t [v0, v1, v2, v3, v4, v5, v6]) (hw : Below w0.heap.size w0 w) (hp : plainS (d + 1) t 6 = true) (hbx : boxS (d + 1) t = some b) (h0 : 0 ≤ fr) (h1 : fr + 8 * b.size ≤ 1000000) (hs : t.sh = 3)
    (hrow : w.ownsRow base 48 3 v L.length (sptC L)) (hbs0 : w0.heap.size ≤ base) (hbs : base ≤ w.heap.size) (hL : L.length ≤ 2000) :
    Calls Try.prog 88 #[v, .agg #[v0, v1, v2, v3, v4, v5, v6], .int .i64 fr] w fun e w' => ∃ v', e = .returned v' ∧ w'.ownsRow base 48 3 v' ((L ++ leavesS (d + 1) t fr).take 2001).length (sptC ((L ++ leavesS (d + 1) t fr).take 2001)) ∧ RTr w v w' v' := by
  obtain ⟨x, bx, hof, hbare, htk, g1, g2, hpx, hbbx, hbe, g3, hok⟩ := arr_parts hs hp hbx
  have HB := Lib.hid (fun w' (hb : Below w.heap.size w w') => box_c (d + 1) t 6 v0 v1 v2 v3 v4 v5 v6 w' hp (ht.below (hw.trans (hb.mono hw.size))))
  have hX : leavesS (d + 1) t fr = (List.range t.n.toNat).flatMap fun (i : Nat) => leavesS d x (fr + 8 * bx.size * i) := by
    show (if Nd.sh t = 1 then _ else _) = _
    rw [if_neg (by omega), if_neg (by omega), if_pos hs, hof]
    show (List.range t.n.toNat).flatMap (fun (i : Nat) => leavesS d x (fr + 8 * bsz d x * i)) = _
    have : bsz d x = bx.size := by unfold bsz; rw [(err_of hpx (by omega) hbbx).2.1]
    rw [this]
  obtain ⟨X, hXX⟩ : ∃ X, leavesS (d + 1) t fr = X := ⟨_, rfl⟩
  rw [hXX] at hX ⊢
  obtain ⟨A1, A2, c1, c2, hcs, b1, b2, b3, b4, l1, l2, m1, m2, hty, hfs⟩ := id ht
  have hTX : TysAt w0 d A1 [x] := by rw [hof] at hty; exact hty
  clear hty hfs
  simp only [List.cons.injEq, and_true] at hcs
  obtain ⟨rfl, rfl, rfl, rfl, rfl, rfl, rfl⟩ := hcs
  obtain ⟨A, c, rfl, hsp⟩ := spts_of_row hrow
  have ofl : t.of.length = 1 := by rw [hof]; rfl
  have hNn : t.n = ((t.n.toNat : Nat) : Int) := by omega
  obtain ⟨N, hN⟩ : ∃ N, t.n.toNat = N := ⟨_, rfl⟩
  rw [hN] at hNn hX
  obtain ⟨sh, hsh⟩ : ∃ x, t.sh = x := ⟨_, rfl⟩
  obtain ⟨k, hk⟩ : ∃ x, t.k = x := ⟨_, rfl⟩
  obtain ⟨fln, hfl⟩ : ∃ x, t.fs.length = x := ⟨_, rfl⟩
  obtain ⟨pk, hpk⟩ : ∃ x, t.pk = x := ⟨_, rfl⟩
  obtain ⟨al, hal⟩ : ∃ x, t.al = x := ⟨_, rfl⟩
  obtain ⟨z, hz⟩ : ∃ z, bx.size = z := ⟨_, rfl⟩
  rw [hsh] at hs
  subst hs
  rw [hsh, hk, hNn, ofl, hfl, hpk, hal] at HB ⊢
  rw [hNn] at g1 g2 g3
  rw [hz] at hX g3
  have hsz : b.size = z * N := by rw [hbe, hz, hNn]
  rw [hsz] at h1
  have hz1 : 1 ≤ z := by have := hok.1; omega
  have hz2 : z ≤ 65536 := by have := hok.2.1; omega
  have HX := Lib.hid hX
  have HBX := Lib.hid hbx
  have HR := Lib.hid hrow
  have HBBX := Lib.hid hbbx
  have HPX := Lib.hid hpx
  have HTX := Lib.hid hTX
  have HW := Lib.hid hw
  have HZ := Lib.hid hz
  have HBE := Lib.hid hbe
  clear hX hXX hbx hsz hsh hk hok hrow hsp ht hp hw hbe hof hbare htk ofl hNn hfl hpk hal hbbx hpx hTX hz hN
  go_enter Try.func88, Try.ntmps88
  go_wp2_with fail
  refine (HB.out _ (bel_alloc (Below.refl _ _) _)).mono ?_
  rintro e w1 ⟨bsz, bag, big, xA, xn, xc, rfl, hb1, hx⟩
  obtain rfl : big = false := by
    rcases hx with ⟨h, _⟩ | ⟨b', h, e1, e2, _⟩
    · rw [HBX.out] at h; cases h
    · exact e1
  have hT1 := (Bk.new w 38 #[.int .i64 3, .int .i64 k, .int .i64 N, .slice A1 1 c1, .slice A2 fln c2, .bool pk, .int .i64 al]).below hb1 (by simp)
  have HB1 := Lib.hid (bel_then (bel_alloc (Below.refl _ _) _) hb1)
  have t0 := hT1.at_ (i := 0) rfl
  have t3 := hT1.at_ (i := 3) rfl
  obtain ⟨ob, oo, u0, u1, u2, u3, u4, u5, u6, hA1, htx, q0, q1, q2, q3, q4, q5, q6⟩ := HTX.out.at_ (i := 0) rfl
  obtain ⟨xn', E1, E2, m1', m2', d1, d2, xpk, xal, hcs⟩ := htx.form
  simp only [List.cons.injEq, and_true] at hcs
  obtain ⟨rfl, rfl, rfl, rfl, rfl, rfl, rfl⟩ := hcs
  subst hA1
  simp only [Nat.zero_mul, Nat.add_zero] at q0 q1 q2 q3 q4 q5 q6
  have HTXX := Lib.hid htx
  have HQ0 := Lib.hid q0
  have HQ1 := Lib.hid q1
  have HQ2 := Lib.hid q2
  have HQ3 := Lib.hid q3
  have HQ4 := Lib.hid q4
  have HQ5 := Lib.hid q5
  have HQ6 := Lib.hid q6
  have hW1 := HW.out.trans (HB1.out.mono HW.out.size)
  have p0 := bel_cell hW1 q0
  have p1 := bel_cell hW1 q1
  have p2 := bel_cell hW1 q2
  have p3 := bel_cell hW1 q3
  have p4 := bel_cell hW1 q4
  have p5 := bel_cell hW1 q5
  have p6 := bel_cell hW1 q6
  have hT2 := hT1.alloc (.cells #[.int .i64 bsz, .int .i64 bag, .bool false, .slice xA xn xc] 58)
  have HBX1 := Lib.hid (bel_alloc HB1.out (.cells #[.int .i64 bsz, .int .i64 bag, .bool false, .slice xA xn xc] 58))
  have HBB := Lib.hid (fun w' (hb : Below w0.heap.size w0 w') => box_c d x 6 _ _ _ _ _ _ _ w' HPX.out (htx.below hb))
  have hlt1 := hT1.lt
  have hob1 := World.block_lt_of_cell? _ _ p0
  simp only at hob1
  clear hb1 hx htx q0 q1 q2 q3 q4 q5 q6
  go_wp2_with fail
  refine (HBB.out _ (HW.out.trans (HBX1.out.mono HW.out.size))).mono ?_
  rintro e w2 ⟨zz, zag, zbig, zA, zn, zc, rfl, hb2, hx⟩
  obtain ⟨rfl, rfl⟩ : zbig = false ∧ zz = z := by
    rcases hx with ⟨h, _⟩ | ⟨b', h, e1, e2, _⟩
    · rw [HBBX.out] at h; cases h
    · rw [HBBX.out] at h; cases h; exact ⟨e1, e2.trans HZ.out⟩
  have hT3 := (hT2.below hb2 hT2.lt).alloc (.cells #[.int .i64 zz, .int .i64 zag, .bool false, .slice zA zn zc] 58)
  have hO3 := Bk.new w2 58 #[.int .i64 zz, .int .i64 zag, .bool false, .slice zA zn zc]
  have HB3 := Lib.hid (bel_alloc (bel_then HBX1.out hb2) (.cells #[.int .i64 zz, .int .i64 zag, .bool false, .slice zA zn zc] 58))
  clear t0 t3 p0 p1 p2 p3 p4 p5 p6 hb2 hx hT1 hT2 hlt1 hob1
  go_wp2_with fail
  generalize World.alloc w2 _ = W3 at hT3 hO3 HB3 ⊢
  have hrow3 := row_below HR.out HB3.out
  have HT3 := Lib.hid hT3
  have HO3 := Lib.hid hO3
  have HW3 := Lib.hid (HW.out.trans (HB3.out.mono HW.out.size))
  have hs3 := HB3.out.size
  have nT := hT3.ne_row (by decide) hrow3
  have nO := hO3.ne_row (by decide) hrow3
  clear hT3 hO3
  have HR3 := Lib.hid hrow3
  have NT := Lib.hid nT
  have NO := Lib.hid nO
  clear nT nO hrow3
  go_loopw [0, 9] (fun s0 s9 wr => ∃ (j : Nat) (L' : List Spt) (A' : Option Addr) (c' : Nat), j ≤ N ∧ s9 = .int .i64 j ∧ s0 = .slice A' L'.length c' ∧ wr.ownsRow base 48 3 (.slice A' L'.length c') L'.length (sptC L') ∧ RTr W3 (.slice A L.length c) wr (.slice A' L'.length c') ∧ L' = (L ++ (List.range j).flatMap fun (i : Nat) => leavesS d x (fr + 8 * zz * i)).take 2001) (fun _ i _ => N - (intOf i).toNat)
  case atStart => exact ⟨0, L, A, c, Nat.zero_le _, rfl, rfl, HR3.out, RTr.refl _ _, by simp; rw [List.take_of_length_le (by omega)]⟩
  case round =>
    obtain ⟨j, L', A', c', hj, rfl, rfl, hro, htr, hLe⟩ := hrel
    have HLE := Lib.hid hLe
    have hl2 : L'.length ≤ 2001 := by rw [hLe]; exact List.length_take_le _ _
    have hTr := htr.bk HT3.out NT.out
    have hOr := htr.bk HO3.out NO.out
    have t2 := hTr.at_ (i := 2) rfl
    have HRO := Lib.hid hro
    have HTR := Lib.hid htr
    clear hLe hro htr
    by_cases hlt : j < N
    · by_cases hle : L'.length ≤ 2000
      · have t3 := hTr.at_ (i := 3) rfl
        have o0 := hOr.at_ (i := 0) rfl
        have hlow := HTR.out.low HW3.out (fun g hg => Nat.le_trans hbs0 (own_of_row HR3.out g hg).1)
        have HLOW := Lib.hid hlow
        have p0 := bel_cell hlow HQ0.out
        have p1 := bel_cell hlow HQ1.out
        have p2 := bel_cell hlow HQ2.out
        have p3 := bel_cell hlow HQ3.out
        have p4 := bel_cell hlow HQ4.out
        have p5 := bel_cell hlow HQ5.out
        have p6 := bel_cell hlow HQ6.out
        have r1 : 8 * zz * (j : Int) + 8 * zz ≤ 8 * (zz * N) := by
          have := Int.mul_le_mul_of_nonneg_left (show (j : Int) + 1 ≤ N by omega) (show 0 ≤ 8 * zz by omega)
          rw [Int.mul_add, Int.mul_one, Int.mul_assoc 8 zz N] at this
          exact this
        have r0 : 0 ≤ 8 * zz * (j : Int) := Int.mul_nonneg (by omega) (by omega)
        have r3 : 8 * zz * (j : Int) ≤ 524288 := by omega
        clear hlow hTr hOr
        go_wp2_with fail
        refine region_tail (C := fun w' => ∃ n, w' = wr.drewN n) 12 (by kernel_rfl) (by kernel_rfl) ⟨1, rfl⟩ ?_
        simp only [List.take_succ_cons, List.take_zero, List.drop_succ_cons, List.drop_zero]
        repeat (go_big_quiet_step (fail))
        refine wpQuiet_nil ?_
        rintro _ ⟨nq, rfl⟩
        clear t2 t3 o0 p0 p1 p2 p3 p4 p5 p6
        have hbq := bel_drewN (Below.refl wr.heap.size wr) nq
        have hroq := row_below HRO.out hbq
        have HTQ := Lib.hid (HTR.out.trans (RTr.below hbq))
        have HLQ := Lib.hid (HLOW.out.trans (hbq.mono HLOW.out.size))
        generalize World.drewN wr nq = Wq at hbq hroq HTQ HLQ ⊢
        have hsq := HTQ.out.g.size
        go_wp2_with fail
        refine (IH w0 x _ _ _ _ _ _ _ _ bx (fr + 8 * zz * j) base _ L' Wq rfl HTXX.out HLQ.out HPX.out HBBX.out (by omega) (by rw [HZ.out]; omega) hroq hbs0 (by omega) (by omega)).mono ?_
        rintro e w5 ⟨v5, rfl, hro5, htr5⟩
        obtain ⟨L5, hL5⟩ : ∃ L5, (L' ++ leavesS d x (fr + 8 * zz * j)).take 2001 = L5 := ⟨_, rfl⟩
        rw [hL5] at hro5
        have HL5 := Lib.hid hL5
        clear hL5
        obtain ⟨A5, c5, rfl, -⟩ := spts_of_row hro5
        have HRO5 := Lib.hid hro5
        have HTR5 := Lib.hid (HTQ.out.trans htr5)
        clear hro5 htr5 hbq hroq
        go_wp2_with fail
        go_roundw
        case rel => exact ⟨j + 1, L5, A5, c5, by omega, by go_num, rfl, HRO5.out, HTR5.out, by rw [← HL5.out, take_join HLE.out, List.append_assoc, flat_snoc (f := fun (i : Nat) => leavesS d x (fr + 8 * zz * i))]⟩
        case measure => simp [intOf]; omega
      · have HF := Lib.hid (flat_more (f := fun (i : Nat) => leavesS d x (fr + 8 * zz * i)) (L := L) (n := 2001) hj (.inr (by rw [← HLE.out]; omega)))
        go_wp2_with fail
        go_ret
        refine ⟨_, rfl, ?_, (RTr.below HB3.out).trans HTR.out⟩
        rw [HX.out, HF.out, ← HLE.out]
        exact HRO.out
    · have HF := Lib.hid (flat_more (f := fun (i : Nat) => leavesS d x (fr + 8 * zz * i)) (L := L) (n := 2001) hj (.inl (by omega)))
      have hge : N ≤ j := by omega
      go_wp2_with fail
      go_ret
      refine ⟨_, rfl, ?_, (RTr.below HB3.out).trans HTR.out⟩
      rw [HX.out, HF.out, ← HLE.out]
      exact HRO.out
end Go.Proofs.Ytcggghamnmflcaa
namespace Go.Proofs.Ytcggghamnmflcaa
open Go Go.RowKit Go.Shelf
theorem zip_more {d : Nat} {fr : Int} {L : List Spt} {l : List (Fld (Tp d))} {K : List Spt} {j n : Nat} (h : l.length ≤ j ∨ n ≤ ((L ++ ((l.zip K).take j).flatMap (memLv d fr)).take n).length) : (L ++ (l.zip K).flatMap (memLv d fr)).take n = (L ++ ((l.zip K).take j).flatMap (memLv d fr)).take n := by
  rcases h with h | h
  · rw [List.take_of_length_le (l := l.zip K) (by rw [List.length_zip]; omega)]
  · conv => lhs; rw [← List.take_append_drop j (l.zip K), List.flatMap_append, ← List.append_assoc]
    exact take_more h
set_option maxRecDepth 100000 in
set_option maxHeartbeats 8000000 in
theorem rlv_cmp4 {d : Nat} (IH : RLvC d) {t : Nd (Tp d)} {v0 v1 v2 v3 v4 v5 v6 : Value} {b : Bx} {fr : Int} {base : Nat} {v : Value} {L : List Spt} {w w0 : World} (ht : TyAt w0 (d + 1) t [v0, v1, v2, v3, v4, v5, v6]) (hw : Below w0.heap.size w0 w) (hp : plainS (d + 1) t 6 = true) (hbx : boxS (d + 1) t = some b) (h0 : 0 ≤ fr) (h1 : fr + 8 * b.size ≤ 1000000) (hs : t.sh = 4)
    (hrow : w.ownsRow base 48 3 v L.length (sptC L)) (hbs0 : w0.heap.size ≤ base) (hbs : base ≤ w.heap.size) (hL : L.length ≤ 2000) :
    Calls Try.prog 88 #[v, .agg #[v0, v1, v2, v3, v4, v5, v6], .int .i64 fr] w fun e w' => ∃ v', e = .returned v' ∧ w'.ownsRow base 48 3 v' ((L ++ leavesS (d + 1) t fr).take 2001).length (sptC ((L ++ leavesS (d + 1) t fr).take 2001)) ∧ RTr w v w' v' := by
  have h0e := (err_of hp (by omega) hbx)
  have HLI := liesR h0e.1 (show t.sh = 4 ∨ t.sh = 5 by omega)
  rw [h0e.2.2.1, h0e.2.2.2] at HLI
  have hmL : memL (d + 1) t = b.l := by
    unfold memL
    rw [if_pos ⟨h0e.1, show t.sh = 4 ∨ t.sh = 5 by omega⟩, h0e.2.1]
  rw [hmL] at HLI
  have HB := Lib.hid (fun w' (hb : Below w.heap.size w w') => box_c (d + 1) t 6 v0 v1 v2 v3 v4 v5 v6 w' hp (ht.below (hw.trans (hb.mono hw.size))))
  have hX : leavesS (d + 1) t fr = (t.fs.zip b.l).flatMap (memLv d fr) := by
    show (if Nd.sh t = 1 then _ else _) = _
    rw [if_neg (by omega), if_neg (by omega), if_neg (by omega), h0e.2.1]
    rfl
  obtain ⟨X, hXX⟩ : ∃ X, leavesS (d + 1) t fr = X := ⟨_, rfl⟩
  rw [hXX] at hX ⊢
  obtain ⟨A1, A2, c1, c2, hcs, b1, b2, b3, b4, l1, l2, m1, m2, hty, hfs⟩ := id ht
  have hF : FdsAt w0 d A2 t.fs := hfs
  clear hty hfs
  simp only [List.cons.injEq, and_true] at hcs
  obtain ⟨rfl, rfl, rfl, rfl, rfl, rfl, rfl⟩ := hcs
  obtain ⟨A, c, rfl, hsp⟩ := spts_of_row hrow
  obtain ⟨K, hK⟩ : ∃ K, b.l = K := ⟨_, rfl⟩
  rw [hK] at HLI hX
  have hlen : K.length = t.fs.length := HLI.len
  have HALL := HLI.all
  have hsz2 : b.size ≤ 65536 := by have := HLI.n2; omega
  obtain ⟨fs, hfs⟩ : ∃ fs, t.fs = fs := ⟨_, rfl⟩
  rw [hfs] at hlen hF hX HALL l2
  obtain ⟨sh, hsh⟩ : ∃ x, t.sh = x := ⟨_, rfl⟩
  obtain ⟨k, hk⟩ : ∃ x, t.k = x := ⟨_, rfl⟩
  obtain ⟨n, hn⟩ : ∃ x, t.n = x := ⟨_, rfl⟩
  obtain ⟨on, hon⟩ : ∃ x, t.of.length = x := ⟨_, rfl⟩
  obtain ⟨pk, hpk⟩ : ∃ x, t.pk = x := ⟨_, rfl⟩
  obtain ⟨al, hal⟩ : ∃ x, t.al = x := ⟨_, rfl⟩
  obtain ⟨sz, hsz⟩ : ∃ x, b.size = x := ⟨_, rfl⟩
  rw [hsz] at h1 HALL hsz2
  rw [hsh] at hs
  subst hs
  rw [hsh, hk, hn, hon, hfs, hpk, hal] at HB ⊢
  have HX := Lib.hid hX
  have HBX := Lib.hid hbx
  have HR := Lib.hid hrow
  have HF := Lib.hid hF
  have HW := Lib.hid hw
  have HKK := Lib.hid hK
  have HLEN := Lib.hid hlen
  replace HALL := Lib.hid HALL
  have hfl : fs.length ≤ 9223372036854775807 := by omega
  clear hX hXX hbx hsz hsh hk hrow hsp ht hp hw hn hon hfs hpk hal hK hF hlen HLI hmL h0e
  go_enter Try.func88, Try.ntmps88
  go_wp2_with fail
  refine (HB.out _ (bel_alloc (Below.refl _ _) _)).mono ?_
  rintro e w1 ⟨bsz, bag, big, xA, xn, xc, rfl, hb1, hx⟩
  obtain ⟨rfl, hsp⟩ : big = false ∧ Spts (w.alloc (.cells #[.int .i64 4, .int .i64 k, .int .i64 n, .slice A1 on c1, .slice A2 fs.length c2, .bool pk, .int .i64 al] 38)).heap.size w1 xA xn K := by
    rcases hx with ⟨h, _⟩ | ⟨b', h, e1, _, _, e4⟩
    · rw [HBX.out] at h; cases h
    · rw [HBX.out] at h; cases h; exact ⟨e1, by rw [← HKK.out]; exact e4⟩
  obtain rfl : xn = fs.length := by rw [hsp.1.1, HLEN.out]
  have hT1 := (Bk.new w 38 #[.int .i64 4, .int .i64 k, .int .i64 n, .slice A1 on c1, .slice A2 fs.length c2, .bool pk, .int .i64 al]).below hb1 (by simp)
  have HB1 := Lib.hid (bel_then (bel_alloc (Below.refl _ _) _) hb1)
  have t0 := hT1.at_ (i := 0) rfl
  have hT3 := hT1.alloc (.cells #[.int .i64 bsz, .int .i64 bag, .bool false, .slice xA fs.length xc] 58)
  have hO3 := Bk.new w1 58 #[.int .i64 bsz, .int .i64 bag, .bool false, .slice xA fs.length xc]
  have HB3 := Lib.hid (bel_alloc HB1.out (.cells #[.int .i64 bsz, .int .i64 bag, .bool false, .slice xA fs.length xc] 58))
  have hlt1 := hT1.lt
  have HSP := Lib.hid (hsp.1.below (bel_alloc (Below.refl _ _) (.cells #[.int .i64 bsz, .int .i64 bag, .bool false, .slice xA fs.length xc] 58)))
  have HSB := Lib.hid (fun a (ha : xA = some a) => Nat.le_trans (show w.heap.size ≤ (w.alloc (.cells #[.int .i64 4, .int .i64 k, .int .i64 n, .slice A1 on c1, .slice A2 fs.length c2, .bool pk, .int .i64 al] 38)).heap.size by simp) (hsp.2 a ha))
  clear hb1 hx hsp
  go_wp2_with fail
  clear t0 hlt1 hT1
  generalize World.alloc w1 _ = W3 at hT3 hO3 HB3 HSP ⊢
  have hrow3 := row_below HR.out HB3.out
  have HT3 := Lib.hid hT3
  have HO3 := Lib.hid hO3
  have HW3 := Lib.hid (HW.out.trans (HB3.out.mono HW.out.size))
  have hs3 := HB3.out.size
  have NT := Lib.hid (hT3.ne_row (by decide) hrow3)
  have NO := Lib.hid (hO3.ne_row (by decide) hrow3)
  have HR3 := Lib.hid hrow3
  clear hT3 hO3 hrow3
  go_loopw [0, 10] (fun s0 s10 wr => ∃ (j : Nat) (L' : List Spt) (A' : Option Addr) (c' : Nat), j ≤ fs.length ∧ s10 = .int .i64 j ∧ s0 = .slice A' L'.length c' ∧ wr.ownsRow base 48 3 (.slice A' L'.length c') L'.length (sptC L') ∧ RTr W3 (.slice A L.length c) wr (.slice A' L'.length c') ∧ L' = (L ++ ((fs.zip K).take j).flatMap (memLv d fr)).take 2001) (fun _ i _ => fs.length - (intOf i).toNat)
  case atStart => exact ⟨0, L, A, c, Nat.zero_le _, rfl, rfl, HR3.out, RTr.refl _ _, by simp; rw [List.take_of_length_le (by omega)]⟩
  case round =>
    obtain ⟨j, L', A', c', hj, rfl, rfl, hro, htr, hLe⟩ := hrel
    have HLE := Lib.hid hLe
    have hl2 : L'.length ≤ 2001 := by rw [hLe]; exact List.length_take_le _ _
    have hTr := htr.bk HT3.out NT.out
    have hOr := htr.bk HO3.out NO.out
    have t4 := hTr.at_ (i := 4) rfl
    have HRO := Lib.hid hro
    have HTR := Lib.hid htr
    clear hLe hro htr
    by_cases hlt : j < fs.length
    · by_cases hle : L'.length ≤ 2000
      · obtain ⟨f, hf⟩ : ∃ f, fs[j]? = some f := ⟨_, List.getElem?_eq_getElem hlt⟩
        obtain ⟨x, hx⟩ : ∃ x, K[j]? = some x := ⟨_, List.getElem?_eq_getElem (by rw [HLEN.out]; exact hlt)⟩
        obtain ⟨y1, y2, y3, -, -, y6, -, bb, y8⟩ := HALL.out j f x hf hx
        have y9 := y8.bits
        have HP8 := Lib.hid y8
        have HP6 := Lib.hid y6
        have hlow := HTR.out.low HW3.out (fun g hg => Nat.le_trans hbs0 (own_of_row HR3.out g hg).1)
        have HLOW := Lib.hid hlow
        obtain ⟨fb, fo, xn', E1, E2, m1', m2', d1, d2, xpk, xal, hA1, hbt, hnm, htx, p0, p1, p2, p3, p4, p5, p6, p7, p8⟩ := HF.out.at_ hf
        subst hA1
        obtain ⟨sb, so, hA, s0, s1, s2⟩ := HSP.out.2 j x hx
        have hnes : some sb ≠ (Value.slice A L.length c).ownBlock := fun e => by
          have := (own_of_row HR.out sb e.symm).2
          have := HSB.out _ hA
          simp only at this
          omega
        subst hA
        have s0w := s0
        replace s0 := HTR.out.cell s0 hnes
        clear s1 s2
        replace p0 := bel_cell hlow p0
        replace p1 := bel_cell hlow p1
        replace p2 := bel_cell hlow p2
        replace p3 := bel_cell hlow p3
        replace p4 := bel_cell hlow p4
        replace p5 := bel_cell hlow p5
        replace p6 := bel_cell hlow p6
        replace p7 := bel_cell hlow p7
        replace p8 := bel_cell hlow p8
        have o3 := hOr.at_ (i := 3) rfl
        have HTXX := Lib.hid htx
        have HFF := Lib.hid hf
        have HXX := Lib.hid hx
        have hsb := World.block_lt_of_cell? wr _ s0
        simp only at hsb
        have hOl := hOr.lt
        have hTl := hTr.lt
        have hbf := bel_alloc (Below.refl wr.heap.size wr) (.cells #[.string f.nm, .int .i64 (tsh d f.t), .int .i64 (tk d f.t), .int .i64 xn', .slice E1 m1' d1, .slice E2 m2' d2, .bool xpk, .int .i64 xal, .int .i64 f.bits] 56)
        have HBF := Lib.hid hbf
        have hroF := row_below HRO.out hbf
        have hfB := Bk.new wr 56 #[.string f.nm, .int .i64 (tsh d f.t), .int .i64 (tk d f.t), .int .i64 xn', .slice E1 m1' d1, .slice E2 m2' d2, .bool xpk, .int .i64 xal, .int .i64 f.bits]
        have N2 := Lib.hid (show (Value.slice A' L'.length c').ownBlock ≠ some sb from fun e => by
          rcases HTR.out.o with h | ⟨g, h, hg⟩
          · exact hnes (by rw [← h]; exact e.symm)
          · rw [h] at e
            cases e
            have := World.block_lt_of_cell? W3 _ s0w
            simp only at this
            omega)
        have N1 := Lib.hid (show (Value.slice A' L'.length c').ownBlock ≠ some w1.heap.size from fun e => hOr.ne_row (by decide) HRO.out e.symm)
        clear htx y6 y8 hf hx hnes hlow hbf s0w
        by_cases hbp : 0 < f.bits
        · rw [if_neg (by omega)] at y9
          have HMV := Lib.hid (show memLv d fr (f, x) = [⟨fr + x.bit, f.bits, tk d f.t⟩] by unfold memLv; rw [if_neg (by simp only; omega), if_pos hbp])
          have gd : decide (0 < f.bits) = true := decide_eq_true hbp
          go_wp2_with fail
          have o3' := (hOr.below HBF.out hOl).at_ (i := 3) rfl
          have s0' := bel_cell HBF.out s0
          have f2' := hfB.at_ (i := 2) rfl
          have f8' := hfB.at_ (i := 8) rfl
          have NF := Lib.hid (hfB.ne_row (by decide) hroF)
          have hsF := HBF.out.size
          clear t4 o3 s0 p0 p1 p2 p3 p4 p5 p6 p7 p8 hTr hOr
          generalize hWF : World.alloc wr _ = WF at HBF hroF hfB o3' s0' f2' f8' NF hsF ⊢
          have HWF := Lib.hid hWF
          clear hWF
          have hsq := HBF.out.size
          have hrs := HTR.out.g.size
          obtain ⟨i0, hi0, hz0', hz1', hz2'⟩ := info_parts info48
          have z1 : (0 : Int) ≤ (j : Int) := Int.natCast_nonneg _
          have z2 : (j : Int) < (fs.length : Int) := by omega
          have z3 : IntKind.i64.wrap (fr + x.bit) = fr + x.bit := IntWalk.i64_in _ (by omega)
          have n1 : (Value.slice A' L'.length c').ownBlock ≠ some w1.heap.size := N1.out
          have n2 : (Value.slice A' L'.length c').ownBlock ≠ some sb := N2.out
          have n3 : (Value.slice A' L'.length c').ownBlock ≠ some wr.heap.size := Ne.symm NF.out
          have lb1 := World.block_lt_of_cell? _ _ o3'
          have lb2 := World.block_lt_of_cell? _ _ s0'
          have lb3 := World.block_lt_of_cell? _ _ f2'
          simp only at lb1 lb2 lb3
          have HROF := Lib.hid hroF
          clear hroF hfB
          go_region_held3 (fun w' => w'.cell? ⟨w1.heap.size, 3, none⟩ = some (.slice (some ⟨sb, so, none⟩) fs.length xc) ∧ w'.cell? ⟨sb, so + j * 3, none⟩ = some (.int .i64 x.bit) ∧ w'.cell? ⟨wr.heap.size, 2, none⟩ = some (.int .i64 (tk d f.t)) ∧ w'.cell? ⟨wr.heap.size, 8, none⟩ = some (.int .i64 f.bits))
            (first
              | go_keep
              | (go_split_ands
                 refine ⟨?_, ?_, ?_, ?_⟩
                 · (rw [hgrow.cell_far _ (by simp; omega) (Ne.symm n1)]; assumption)
                 · (rw [hgrow.cell_far _ (by simp; omega) (Ne.symm n2)]; assumption)
                 · (rw [hgrow.cell_far _ (by simp; omega) (Ne.symm n3)]; assumption)
                 · (rw [hgrow.cell_far _ (by simp; omega) (Ne.symm n3)]; assumption)))
            ((refine step_append_lies _ (by rfl) _ _ _ (by rfl) base 48 i0 _ 3 24 Try.underlying42 hi0 hz0' hz1' hz2' rfl (by omega) (.slice A' L'.length c') L'.length (sptC L') (by rfl) ((HROF.out.alloc _).drew)
                ⟨WF.heap.size, 0, none⟩ 1 1 [.int .i64 (fr + x.bit), .int .i64 f.bits, .int .i64 (tk d f.t)] (by rfl) (by rfl) (World.news_of_block (cs := #[.int .i64 (fr + x.bit), .int .i64 f.bits, .int .i64 (tk d f.t)]) (t := 48) (fr := (0, 0)) (heap_alloc_new WF _)) (by simp [Value.oneCell'])
                (by omega) (by unfold maxLen; omega) (by omega) (by simp; omega) (WF.heap.size + 1) (by simp) ?_; intro g5 c5 w7 hown7 hgrow hat hlt7))
          obtain ⟨-, -, -, f8⟩ : w7.cell? ⟨w1.heap.size, 3, none⟩ = some (.slice (some ⟨sb, so, none⟩) fs.length xc) ∧ w7.cell? ⟨sb, so + j * 3, none⟩ = some (.int .i64 x.bit) ∧ w7.cell? ⟨wr.heap.size, 2, none⟩ = some (.int .i64 (tk d f.t)) ∧ w7.cell? ⟨wr.heap.size, 8, none⟩ = some (.int .i64 f.bits) := by assumption
          have hO : w7.ownsRow base 48 3 (.slice (some ⟨g5, 0, none⟩) (L' ++ [(⟨fr + x.bit, f.bits, tk d f.t⟩ : Spt)]).length c5) (L' ++ [(⟨fr + x.bit, f.bits, tk d f.t⟩ : Spt)]).length (sptC (L' ++ [(⟨fr + x.bit, f.bits, tk d f.t⟩ : Spt)])) := by
            rw [sptC_snoc, List.length_append]
            exact hown7
          have hE5 : L'.length + 1 = (L' ++ [(⟨fr + x.bit, f.bits, tk d f.t⟩ : Spt)]).length := by rw [List.length_append]; rfl
          have HTR7 := Lib.hid (HTR.out.trans ((RTr.below HBF.out).trans ((RTr.below (v := .slice A' L'.length c') (bel_drew (bel_alloc (Below.refl WF.heap.size WF) (.cells #[.int .i64 (fr + x.bit), .int .i64 f.bits, .int .i64 (tk d f.t)] 48)))).trans (⟨hgrow, by
            rcases hat with h | h
            · exact .inl h.symm
            · exact .inr ⟨g5, rfl, by rw [h]; simp⟩⟩ : RTr _ (.slice A' L'.length c') w7 (.slice (some ⟨g5, 0, none⟩) (L'.length + 1) c5)))))
          rw [hE5] at HTR7 ⊢
          obtain ⟨L5, hL5⟩ : ∃ L5, L' ++ [(⟨fr + x.bit, f.bits, tk d f.t⟩ : Spt)] = L5 := ⟨_, rfl⟩
          rw [hL5] at hO HTR7 ⊢
          have HL5 := Lib.hid (show L5 = (L' ++ [(⟨fr + x.bit, f.bits, tk d f.t⟩ : Spt)]).take 2001 by rw [← hL5, List.take_of_length_le (by simp; omega)])
          have HO5 := Lib.hid hO
          clear hO hL5 hE5 hown7 hgrow hat hlt7 z3 n1 n2 n3
          go_wp2_with fail
          go_roundw
          case rel => exact ⟨j + 1, L5, some ⟨g5, 0, none⟩, c5, by omega, by go_num, rfl, HO5.out, HTR7.out, by rw [HL5.out, ← HMV.out, take_join HLE.out, List.append_assoc, zip_snoc HFF.out HXX.out]⟩
          case measure => simp [intOf]; omega
        · by_cases hbn : f.bits < 0
          · rw [if_pos hbn] at y9
            have HMV := Lib.hid (show memLv d fr (f, x) = leavesS d f.t (fr + x.bit) by unfold memLv; rw [if_neg (by simp only; omega), if_neg hbp])
            have gd : decide (0 < f.bits) = false := decide_eq_false hbp
            go_wp2_with fail
            have o3' := (hOr.below HBF.out hOl).at_ (i := 3) rfl
            have s0' := bel_cell HBF.out s0
            have g1 := hfB.at_ (i := 1) rfl
            have g2 := hfB.at_ (i := 2) rfl
            have g3 := hfB.at_ (i := 3) rfl
            have g4 := hfB.at_ (i := 4) rfl
            have g5 := hfB.at_ (i := 5) rfl
            have g6 := hfB.at_ (i := 6) rfl
            have g7 := hfB.at_ (i := 7) rfl
            have hsF := HBF.out.size
            clear t4 o3 s0 p0 p1 p2 p3 p4 p5 p6 p7 p8 hTr hOr
            generalize hWF : World.alloc wr _ = WF at HBF hroF hfB o3' s0' g1 g2 g3 g4 g5 g6 g7 hsF ⊢
            clear hWF
            refine region_tail (C := fun w' => ∃ n, w' = WF.drewN n) 11 (by kernel_rfl) (by kernel_rfl) ⟨1, rfl⟩ ?_
            simp only [List.take_succ_cons, List.take_zero, List.drop_succ_cons, List.drop_zero]
            repeat (go_big_quiet_step (fail))
            refine wpQuiet_nil ?_
            rintro _ ⟨nq, rfl⟩
            have hbq := bel_drewN (Below.refl WF.heap.size WF) nq
            have hroq := row_below hroF hbq
            have HBQ := Lib.hid (bel_then HBF.out hbq)
            clear o3' s0' g1 g2 g3 g4 g5 g6 g7 hroF hfB
            generalize World.drewN WF nq = Wq at hbq hroq HBQ ⊢
            have hsq := HBQ.out.size
            have hrs := HTR.out.g.size
            clear hbq
            go_wp2_with fail
            refine (IH w0 f.t _ _ _ _ _ _ _ _ bb (fr + x.bit) base _ L' Wq rfl HTXX.out (HLOW.out.trans (HBQ.out.mono HLOW.out.size)) (plain_mono _ _ _ _ HP6.out (by omega)) HP8.out.bx (by omega) (by omega) hroq hbs0 (by omega) (by omega)).mono ?_
            rintro e w5 ⟨v5, rfl, hro5, htr5⟩
            obtain ⟨L5, hL5⟩ : ∃ L5, (L' ++ leavesS d f.t (fr + x.bit)).take 2001 = L5 := ⟨_, rfl⟩
            rw [hL5] at hro5
            have HL5 := Lib.hid hL5
            clear hL5
            obtain ⟨A5, c5, rfl, -⟩ := spts_of_row hro5
            have HRO5 := Lib.hid hro5
            have HTR5 := Lib.hid (HTR.out.trans ((RTr.below HBQ.out).trans htr5))
            clear hro5 htr5 hroq
            go_wp2_with fail
            go_roundw
            case rel => exact ⟨j + 1, L5, A5, c5, by omega, by go_num, rfl, HRO5.out, HTR5.out, by rw [← HL5.out, ← HMV.out, take_join HLE.out, List.append_assoc, zip_snoc HFF.out HXX.out]⟩
            case measure => simp [intOf]; omega
          · have hbz : f.bits = 0 := by omega
            have HMV := Lib.hid (show memLv d fr (f, x) = [] by unfold memLv; rw [if_pos hbz])
            clear y9
            rw [hbz] at HBF hroF
            go_wp2_with fail
            go_roundw
            case rel => exact ⟨j + 1, L', A', c', by omega, by go_num, rfl, hroF, HTR.out.trans (RTr.below HBF.out), by rw [← zip_snoc HFF.out HXX.out, HMV.out, List.append_nil]; exact HLE.out⟩
            case measure => simp [intOf]; omega
      · have HFm := Lib.hid (zip_more (fr := fr) (L := L) (l := fs) (K := K) (j := j) (n := 2001) (.inr (by rw [← HLE.out]; omega)))
        go_wp2_with fail
        go_ret
        refine ⟨_, rfl, ?_, (RTr.below HB3.out).trans HTR.out⟩
        rw [HX.out, HFm.out, ← HLE.out]
        exact HRO.out
    · have HFm := Lib.hid (zip_more (fr := fr) (L := L) (l := fs) (K := K) (j := j) (n := 2001) (.inl (by omega)))
      have hge : fs.length ≤ j := by omega
      go_wp2_with fail
      go_ret
      refine ⟨_, rfl, ?_, (RTr.below HB3.out).trans HTR.out⟩
      rw [HX.out, HFm.out, ← HLE.out]
      exact HRO.out
set_option maxRecDepth 100000 in
set_option maxHeartbeats 8000000 in
theorem rlv_cmp5 {d : Nat} (IH : RLvC d) {t : Nd (Tp d)} {v0 v1 v2 v3 v4 v5 v6 : Value} {b : Bx} {fr : Int} {base : Nat} {v : Value} {L : List Spt} {w w0 : World} (ht : TyAt w0 (d + 1) t [v0, v1, v2, v3, v4, v5, v6]) (hw : Below w0.heap.size w0 w) (hp : plainS (d + 1) t 6 = true) (hbx : boxS (d + 1) t = some b) (h0 : 0 ≤ fr) (h1 : fr + 8 * b.size ≤ 1000000) (hs : t.sh = 5)
    (hrow : w.ownsRow base 48 3 v L.length (sptC L)) (hbs0 : w0.heap.size ≤ base) (hbs : base ≤ w.heap.size) (hL : L.length ≤ 2000) :
    Calls Try.prog 88 #[v, .agg #[v0, v1, v2, v3, v4, v5, v6], .int .i64 fr] w fun e w' => ∃ v', e = .returned v' ∧ w'.ownsRow base 48 3 v' ((L ++ leavesS (d + 1) t fr).take 2001).length (sptC ((L ++ leavesS (d + 1) t fr).take 2001)) ∧ RTr w v w' v' := by
  have h0e := (err_of hp (by omega) hbx)
  have HLI := liesR h0e.1 (show t.sh = 4 ∨ t.sh = 5 by omega)
  rw [h0e.2.2.1, h0e.2.2.2] at HLI
  have hmL : memL (d + 1) t = b.l := by
    unfold memL
    rw [if_pos ⟨h0e.1, show t.sh = 4 ∨ t.sh = 5 by omega⟩, h0e.2.1]
  rw [hmL] at HLI
  have HB := Lib.hid (fun w' (hb : Below w.heap.size w w') => box_c (d + 1) t 6 v0 v1 v2 v3 v4 v5 v6 w' hp (ht.below (hw.trans (hb.mono hw.size))))
  have hX : leavesS (d + 1) t fr = (t.fs.zip b.l).flatMap (memLv d fr) := by
    show (if Nd.sh t = 1 then _ else _) = _
    rw [if_neg (by omega), if_neg (by omega), if_neg (by omega), h0e.2.1]
    rfl
  obtain ⟨X, hXX⟩ : ∃ X, leavesS (d + 1) t fr = X := ⟨_, rfl⟩
  rw [hXX] at hX ⊢
  obtain ⟨A1, A2, c1, c2, hcs, b1, b2, b3, b4, l1, l2, m1, m2, hty, hfs⟩ := id ht
  have hF : FdsAt w0 d A2 t.fs := hfs
  clear hty hfs
  simp only [List.cons.injEq, and_true] at hcs
  obtain ⟨rfl, rfl, rfl, rfl, rfl, rfl, rfl⟩ := hcs
  obtain ⟨A, c, rfl, hsp⟩ := spts_of_row hrow
  obtain ⟨K, hK⟩ : ∃ K, b.l = K := ⟨_, rfl⟩
  rw [hK] at HLI hX
  have hlen : K.length = t.fs.length := HLI.len
  have HALL := HLI.all
  have hsz2 : b.size ≤ 65536 := by have := HLI.n2; omega
  obtain ⟨fs, hfs⟩ : ∃ fs, t.fs = fs := ⟨_, rfl⟩
  rw [hfs] at hlen hF hX HALL l2
  obtain ⟨sh, hsh⟩ : ∃ x, t.sh = x := ⟨_, rfl⟩
  obtain ⟨k, hk⟩ : ∃ x, t.k = x := ⟨_, rfl⟩
  obtain ⟨n, hn⟩ : ∃ x, t.n = x := ⟨_, rfl⟩
  obtain ⟨on, hon⟩ : ∃ x, t.of.length = x := ⟨_, rfl⟩
  obtain ⟨pk, hpk⟩ : ∃ x, t.pk = x := ⟨_, rfl⟩
  obtain ⟨al, hal⟩ : ∃ x, t.al = x := ⟨_, rfl⟩
  obtain ⟨sz, hsz⟩ : ∃ x, b.size = x := ⟨_, rfl⟩
  rw [hsz] at h1 HALL hsz2
  rw [hsh] at hs
  subst hs
  rw [hsh, hk, hn, hon, hfs, hpk, hal] at HB ⊢
  have HX := Lib.hid hX
  have HBX := Lib.hid hbx
  have HR := Lib.hid hrow
  have HF := Lib.hid hF
  have HW := Lib.hid hw
  have HKK := Lib.hid hK
  have HLEN := Lib.hid hlen
  replace HALL := Lib.hid HALL
  have hfl : fs.length ≤ 9223372036854775807 := by omega
  clear hX hXX hbx hsz hsh hk hrow hsp ht hp hw hn hon hfs hpk hal hK hF hlen HLI hmL h0e
  go_enter Try.func88, Try.ntmps88
  go_wp2_with fail
  refine (HB.out _ (bel_alloc (Below.refl _ _) _)).mono ?_
  rintro e w1 ⟨bsz, bag, big, xA, xn, xc, rfl, hb1, hx⟩
  obtain ⟨rfl, hsp⟩ : big = false ∧ Spts (w.alloc (.cells #[.int .i64 5, .int .i64 k, .int .i64 n, .slice A1 on c1, .slice A2 fs.length c2, .bool pk, .int .i64 al] 38)).heap.size w1 xA xn K := by
    rcases hx with ⟨h, _⟩ | ⟨b', h, e1, _, _, e4⟩
    · rw [HBX.out] at h; cases h
    · rw [HBX.out] at h; cases h; exact ⟨e1, by rw [← HKK.out]; exact e4⟩
  obtain rfl : xn = fs.length := by rw [hsp.1.1, HLEN.out]
  have hT1 := (Bk.new w 38 #[.int .i64 5, .int .i64 k, .int .i64 n, .slice A1 on c1, .slice A2 fs.length c2, .bool pk, .int .i64 al]).below hb1 (by simp)
  have HB1 := Lib.hid (bel_then (bel_alloc (Below.refl _ _) _) hb1)
  have t0 := hT1.at_ (i := 0) rfl
  have hT3 := hT1.alloc (.cells #[.int .i64 bsz, .int .i64 bag, .bool false, .slice xA fs.length xc] 58)
  have hO3 := Bk.new w1 58 #[.int .i64 bsz, .int .i64 bag, .bool false, .slice xA fs.length xc]
  have HB3 := Lib.hid (bel_alloc HB1.out (.cells #[.int .i64 bsz, .int .i64 bag, .bool false, .slice xA fs.length xc] 58))
  have hlt1 := hT1.lt
  have HSP := Lib.hid (hsp.1.below (bel_alloc (Below.refl _ _) (.cells #[.int .i64 bsz, .int .i64 bag, .bool false, .slice xA fs.length xc] 58)))
  have HSB := Lib.hid (fun a (ha : xA = some a) => Nat.le_trans (show w.heap.size ≤ (w.alloc (.cells #[.int .i64 5, .int .i64 k, .int .i64 n, .slice A1 on c1, .slice A2 fs.length c2, .bool pk, .int .i64 al] 38)).heap.size by simp) (hsp.2 a ha))
  clear hb1 hx hsp
  go_wp2_with fail
  clear t0 hlt1 hT1
  generalize World.alloc w1 _ = W3 at hT3 hO3 HB3 HSP ⊢
  have hrow3 := row_below HR.out HB3.out
  have HT3 := Lib.hid hT3
  have HO3 := Lib.hid hO3
  have HW3 := Lib.hid (HW.out.trans (HB3.out.mono HW.out.size))
  have hs3 := HB3.out.size
  have NT := Lib.hid (hT3.ne_row (by decide) hrow3)
  have NO := Lib.hid (hO3.ne_row (by decide) hrow3)
  have HR3 := Lib.hid hrow3
  clear hT3 hO3 hrow3
  go_loopw [0, 10] (fun s0 s10 wr => ∃ (j : Nat) (L' : List Spt) (A' : Option Addr) (c' : Nat), j ≤ fs.length ∧ s10 = .int .i64 j ∧ s0 = .slice A' L'.length c' ∧ wr.ownsRow base 48 3 (.slice A' L'.length c') L'.length (sptC L') ∧ RTr W3 (.slice A L.length c) wr (.slice A' L'.length c') ∧ L' = (L ++ ((fs.zip K).take j).flatMap (memLv d fr)).take 2001) (fun _ i _ => fs.length - (intOf i).toNat)
  case atStart => exact ⟨0, L, A, c, Nat.zero_le _, rfl, rfl, HR3.out, RTr.refl _ _, by simp; rw [List.take_of_length_le (by omega)]⟩
  case round =>
    obtain ⟨j, L', A', c', hj, rfl, rfl, hro, htr, hLe⟩ := hrel
    have HLE := Lib.hid hLe
    have hl2 : L'.length ≤ 2001 := by rw [hLe]; exact List.length_take_le _ _
    have hTr := htr.bk HT3.out NT.out
    have hOr := htr.bk HO3.out NO.out
    have t4 := hTr.at_ (i := 4) rfl
    have HRO := Lib.hid hro
    have HTR := Lib.hid htr
    clear hLe hro htr
    by_cases hlt : j < fs.length
    · by_cases hle : L'.length ≤ 2000
      · obtain ⟨f, hf⟩ : ∃ f, fs[j]? = some f := ⟨_, List.getElem?_eq_getElem hlt⟩
        obtain ⟨x, hx⟩ : ∃ x, K[j]? = some x := ⟨_, List.getElem?_eq_getElem (by rw [HLEN.out]; exact hlt)⟩
        obtain ⟨y1, y2, y3, -, -, y6, -, bb, y8⟩ := HALL.out j f x hf hx
        have y9 := y8.bits
        have HP8 := Lib.hid y8
        have HP6 := Lib.hid y6
        have hlow := HTR.out.low HW3.out (fun g hg => Nat.le_trans hbs0 (own_of_row HR3.out g hg).1)
        have HLOW := Lib.hid hlow
        obtain ⟨fb, fo, xn', E1, E2, m1', m2', d1, d2, xpk, xal, hA1, hbt, hnm, htx, p0, p1, p2, p3, p4, p5, p6, p7, p8⟩ := HF.out.at_ hf
        subst hA1
        obtain ⟨sb, so, hA, s0, s1, s2⟩ := HSP.out.2 j x hx
        have hnes : some sb ≠ (Value.slice A L.length c).ownBlock := fun e => by
          have := (own_of_row HR.out sb e.symm).2
          have := HSB.out _ hA
          simp only at this
          omega
        subst hA
        have s0w := s0
        replace s0 := HTR.out.cell s0 hnes
        clear s1 s2
        replace p0 := bel_cell hlow p0
        replace p1 := bel_cell hlow p1
        replace p2 := bel_cell hlow p2
        replace p3 := bel_cell hlow p3
        replace p4 := bel_cell hlow p4
        replace p5 := bel_cell hlow p5
        replace p6 := bel_cell hlow p6
        replace p7 := bel_cell hlow p7
        replace p8 := bel_cell hlow p8
        have o3 := hOr.at_ (i := 3) rfl
        have HTXX := Lib.hid htx
        have HFF := Lib.hid hf
        have HXX := Lib.hid hx
        have hsb := World.block_lt_of_cell? wr _ s0
        simp only at hsb
        have hOl := hOr.lt
        have hTl := hTr.lt
        have hbf := bel_alloc (Below.refl wr.heap.size wr) (.cells #[.string f.nm, .int .i64 (tsh d f.t), .int .i64 (tk d f.t), .int .i64 xn', .slice E1 m1' d1, .slice E2 m2' d2, .bool xpk, .int .i64 xal, .int .i64 f.bits] 56)
        have HBF := Lib.hid hbf
        have hroF := row_below HRO.out hbf
        have hfB := Bk.new wr 56 #[.string f.nm, .int .i64 (tsh d f.t), .int .i64 (tk d f.t), .int .i64 xn', .slice E1 m1' d1, .slice E2 m2' d2, .bool xpk, .int .i64 xal, .int .i64 f.bits]
        have N2 := Lib.hid (show (Value.slice A' L'.length c').ownBlock ≠ some sb from fun e => by
          rcases HTR.out.o with h | ⟨g, h, hg⟩
          · exact hnes (by rw [← h]; exact e.symm)
          · rw [h] at e
            cases e
            have := World.block_lt_of_cell? W3 _ s0w
            simp only at this
            omega)
        have N1 := Lib.hid (show (Value.slice A' L'.length c').ownBlock ≠ some w1.heap.size from fun e => hOr.ne_row (by decide) HRO.out e.symm)
        clear htx y6 y8 hf hx hnes hlow hbf s0w
        by_cases hbp : 0 < f.bits
        · rw [if_neg (by omega)] at y9
          have HMV := Lib.hid (show memLv d fr (f, x) = [⟨fr + x.bit, f.bits, tk d f.t⟩] by unfold memLv; rw [if_neg (by simp only; omega), if_pos hbp])
          have gd : decide (0 < f.bits) = true := decide_eq_true hbp
          go_wp2_with fail
          have o3' := (hOr.below HBF.out hOl).at_ (i := 3) rfl
          have s0' := bel_cell HBF.out s0
          have f2' := hfB.at_ (i := 2) rfl
          have f8' := hfB.at_ (i := 8) rfl
          have NF := Lib.hid (hfB.ne_row (by decide) hroF)
          have hsF := HBF.out.size
          clear t4 o3 s0 p0 p1 p2 p3 p4 p5 p6 p7 p8 hTr hOr
          generalize hWF : World.alloc wr _ = WF at HBF hroF hfB o3' s0' f2' f8' NF hsF ⊢
          have HWF := Lib.hid hWF
          clear hWF
          have hsq := HBF.out.size
          have hrs := HTR.out.g.size
          obtain ⟨i0, hi0, hz0', hz1', hz2'⟩ := info_parts info48
          have z1 : (0 : Int) ≤ (j : Int) := Int.natCast_nonneg _
          have z2 : (j : Int) < (fs.length : Int) := by omega
          have z3 : IntKind.i64.wrap (fr + x.bit) = fr + x.bit := IntWalk.i64_in _ (by omega)
          have n1 : (Value.slice A' L'.length c').ownBlock ≠ some w1.heap.size := N1.out
          have n2 : (Value.slice A' L'.length c').ownBlock ≠ some sb := N2.out
          have n3 : (Value.slice A' L'.length c').ownBlock ≠ some wr.heap.size := Ne.symm NF.out
          have lb1 := World.block_lt_of_cell? _ _ o3'
          have lb2 := World.block_lt_of_cell? _ _ s0'
          have lb3 := World.block_lt_of_cell? _ _ f2'
          simp only at lb1 lb2 lb3
          have HROF := Lib.hid hroF
          clear hroF hfB
          go_region_held3 (fun w' => w'.cell? ⟨w1.heap.size, 3, none⟩ = some (.slice (some ⟨sb, so, none⟩) fs.length xc) ∧ w'.cell? ⟨sb, so + j * 3, none⟩ = some (.int .i64 x.bit) ∧ w'.cell? ⟨wr.heap.size, 2, none⟩ = some (.int .i64 (tk d f.t)) ∧ w'.cell? ⟨wr.heap.size, 8, none⟩ = some (.int .i64 f.bits))
            (first
              | go_keep
              | (go_split_ands
                 refine ⟨?_, ?_, ?_, ?_⟩
                 · (rw [hgrow.cell_far _ (by simp; omega) (Ne.symm n1)]; assumption)
                 · (rw [hgrow.cell_far _ (by simp; omega) (Ne.symm n2)]; assumption)
                 · (rw [hgrow.cell_far _ (by simp; omega) (Ne.symm n3)]; assumption)
                 · (rw [hgrow.cell_far _ (by simp; omega) (Ne.symm n3)]; assumption)))
            ((refine step_append_lies _ (by rfl) _ _ _ (by rfl) base 48 i0 _ 3 24 Try.underlying42 hi0 hz0' hz1' hz2' rfl (by omega) (.slice A' L'.length c') L'.length (sptC L') (by rfl) ((HROF.out.alloc _).drew)
                ⟨WF.heap.size, 0, none⟩ 1 1 [.int .i64 (fr + x.bit), .int .i64 f.bits, .int .i64 (tk d f.t)] (by rfl) (by rfl) (World.news_of_block (cs := #[.int .i64 (fr + x.bit), .int .i64 f.bits, .int .i64 (tk d f.t)]) (t := 48) (fr := (0, 0)) (heap_alloc_new WF _)) (by simp [Value.oneCell'])
                (by omega) (by unfold maxLen; omega) (by omega) (by simp; omega) (WF.heap.size + 1) (by simp) ?_; intro g5 c5 w7 hown7 hgrow hat hlt7))
          obtain ⟨-, -, -, f8⟩ : w7.cell? ⟨w1.heap.size, 3, none⟩ = some (.slice (some ⟨sb, so, none⟩) fs.length xc) ∧ w7.cell? ⟨sb, so + j * 3, none⟩ = some (.int .i64 x.bit) ∧ w7.cell? ⟨wr.heap.size, 2, none⟩ = some (.int .i64 (tk d f.t)) ∧ w7.cell? ⟨wr.heap.size, 8, none⟩ = some (.int .i64 f.bits) := by assumption
          have hO : w7.ownsRow base 48 3 (.slice (some ⟨g5, 0, none⟩) (L' ++ [(⟨fr + x.bit, f.bits, tk d f.t⟩ : Spt)]).length c5) (L' ++ [(⟨fr + x.bit, f.bits, tk d f.t⟩ : Spt)]).length (sptC (L' ++ [(⟨fr + x.bit, f.bits, tk d f.t⟩ : Spt)])) := by
            rw [sptC_snoc, List.length_append]
            exact hown7
          have hE5 : L'.length + 1 = (L' ++ [(⟨fr + x.bit, f.bits, tk d f.t⟩ : Spt)]).length := by rw [List.length_append]; rfl
          have HTR7 := Lib.hid (HTR.out.trans ((RTr.below HBF.out).trans ((RTr.below (v := .slice A' L'.length c') (bel_drew (bel_alloc (Below.refl WF.heap.size WF) (.cells #[.int .i64 (fr + x.bit), .int .i64 f.bits, .int .i64 (tk d f.t)] 48)))).trans (⟨hgrow, by
            rcases hat with h | h
            · exact .inl h.symm
            · exact .inr ⟨g5, rfl, by rw [h]; simp⟩⟩ : RTr _ (.slice A' L'.length c') w7 (.slice (some ⟨g5, 0, none⟩) (L'.length + 1) c5)))))
          rw [hE5] at HTR7 ⊢
          obtain ⟨L5, hL5⟩ : ∃ L5, L' ++ [(⟨fr + x.bit, f.bits, tk d f.t⟩ : Spt)] = L5 := ⟨_, rfl⟩
          rw [hL5] at hO HTR7 ⊢
          have HL5 := Lib.hid (show L5 = (L' ++ [(⟨fr + x.bit, f.bits, tk d f.t⟩ : Spt)]).take 2001 by rw [← hL5, List.take_of_length_le (by simp; omega)])
          have HO5 := Lib.hid hO
          clear hO hL5 hE5 hown7 hgrow hat hlt7 z3 n1 n2 n3
          go_wp2_with fail
          go_roundw
          case rel => exact ⟨j + 1, L5, some ⟨g5, 0, none⟩, c5, by omega, by go_num, rfl, HO5.out, HTR7.out, by rw [HL5.out, ← HMV.out, take_join HLE.out, List.append_assoc, zip_snoc HFF.out HXX.out]⟩
          case measure => simp [intOf]; omega
        · by_cases hbn : f.bits < 0
          · rw [if_pos hbn] at y9
            have HMV := Lib.hid (show memLv d fr (f, x) = leavesS d f.t (fr + x.bit) by unfold memLv; rw [if_neg (by simp only; omega), if_neg hbp])
            have gd : decide (0 < f.bits) = false := decide_eq_false hbp
            go_wp2_with fail
            have o3' := (hOr.below HBF.out hOl).at_ (i := 3) rfl
            have s0' := bel_cell HBF.out s0
            have g1 := hfB.at_ (i := 1) rfl
            have g2 := hfB.at_ (i := 2) rfl
            have g3 := hfB.at_ (i := 3) rfl
            have g4 := hfB.at_ (i := 4) rfl
            have g5 := hfB.at_ (i := 5) rfl
            have g6 := hfB.at_ (i := 6) rfl
            have g7 := hfB.at_ (i := 7) rfl
            have hsF := HBF.out.size
            clear t4 o3 s0 p0 p1 p2 p3 p4 p5 p6 p7 p8 hTr hOr
            generalize hWF : World.alloc wr _ = WF at HBF hroF hfB o3' s0' g1 g2 g3 g4 g5 g6 g7 hsF ⊢
            clear hWF
            refine region_tail (C := fun w' => ∃ n, w' = WF.drewN n) 11 (by kernel_rfl) (by kernel_rfl) ⟨1, rfl⟩ ?_
            simp only [List.take_succ_cons, List.take_zero, List.drop_succ_cons, List.drop_zero]
            repeat (go_big_quiet_step (fail))
            refine wpQuiet_nil ?_
            rintro _ ⟨nq, rfl⟩
            have hbq := bel_drewN (Below.refl WF.heap.size WF) nq
            have hroq := row_below hroF hbq
            have HBQ := Lib.hid (bel_then HBF.out hbq)
            clear o3' s0' g1 g2 g3 g4 g5 g6 g7 hroF hfB
            generalize World.drewN WF nq = Wq at hbq hroq HBQ ⊢
            have hsq := HBQ.out.size
            have hrs := HTR.out.g.size
            clear hbq
            go_wp2_with fail
            refine (IH w0 f.t _ _ _ _ _ _ _ _ bb (fr + x.bit) base _ L' Wq rfl HTXX.out (HLOW.out.trans (HBQ.out.mono HLOW.out.size)) (plain_mono _ _ _ _ HP6.out (by omega)) HP8.out.bx (by omega) (by omega) hroq hbs0 (by omega) (by omega)).mono ?_
            rintro e w5 ⟨v5, rfl, hro5, htr5⟩
            obtain ⟨L5, hL5⟩ : ∃ L5, (L' ++ leavesS d f.t (fr + x.bit)).take 2001 = L5 := ⟨_, rfl⟩
            rw [hL5] at hro5
            have HL5 := Lib.hid hL5
            clear hL5
            obtain ⟨A5, c5, rfl, -⟩ := spts_of_row hro5
            have HRO5 := Lib.hid hro5
            have HTR5 := Lib.hid (HTR.out.trans ((RTr.below HBQ.out).trans htr5))
            clear hro5 htr5 hroq
            go_wp2_with fail
            go_roundw
            case rel => exact ⟨j + 1, L5, A5, c5, by omega, by go_num, rfl, HRO5.out, HTR5.out, by rw [← HL5.out, ← HMV.out, take_join HLE.out, List.append_assoc, zip_snoc HFF.out HXX.out]⟩
            case measure => simp [intOf]; omega
          · have hbz : f.bits = 0 := by omega
            have HMV := Lib.hid (show memLv d fr (f, x) = [] by unfold memLv; rw [if_pos hbz])
            clear y9
            rw [hbz] at HBF hroF
            go_wp2_with fail
            go_roundw
            case rel => exact ⟨j + 1, L', A', c', by omega, by go_num, rfl, hroF, HTR.out.trans (RTr.below HBF.out), by rw [← zip_snoc HFF.out HXX.out, HMV.out, List.append_nil]; exact HLE.out⟩
            case measure => simp [intOf]; omega
      · have HFm := Lib.hid (zip_more (fr := fr) (L := L) (l := fs) (K := K) (j := j) (n := 2001) (.inr (by rw [← HLE.out]; omega)))
        go_wp2_with fail
        go_ret
        refine ⟨_, rfl, ?_, (RTr.below HB3.out).trans HTR.out⟩
        rw [HX.out, HFm.out, ← HLE.out]
        exact HRO.out
    · have HFm := Lib.hid (zip_more (fr := fr) (L := L) (l := fs) (K := K) (j := j) (n := 2001) (.inl (by omega)))
      have hge : fs.length ≤ j := by omega
      go_wp2_with fail
      go_ret
      refine ⟨_, rfl, ?_, (RTr.below HB3.out).trans HTR.out⟩
      rw [HX.out, HFm.out, ← HLE.out]
      exact HRO.out
theorem rlv_c : ∀ d, RLvC d
  | 0 => fun _ t => nomatch t
  | d + 1 => fun w0 t cs v0 v1 v2 v3 v4 v5 v6 b fr base v L w hcs ht hw hp hbx h0 h1 hrow hb0 hb1 hL => by
    subst hcs
    by_cases hL2 : L.length = 2001
    · exact rlv_full ht hrow hL2
    · have hL3 : L.length ≤ 2000 := by omega
      by_cases h1' : Nd.sh t = 1
      · exact rlv_int (t := t) ht hw hp hbx h1 h0 h1' hrow hb1 hL3
      · by_cases h2 : Nd.sh t = 2
        · exact rlv_ptr (t := t) ht hw hp hbx h1 h0 h2 hrow hb1 hL3
        · by_cases h3 : Nd.sh t = 3
          · exact rlv_arr (rlv_c d) (t := t) ht hw hp hbx h0 h1 h3 hrow hb0 hb1 hL3
          · by_cases h4 : Nd.sh t = 4
            · exact rlv_cmp4 (rlv_c d) (t := t) ht hw hp hbx h0 h1 h4 hrow hb0 hb1 hL3
            · by_cases h5 : Nd.sh t = 5
              · exact rlv_cmp5 (rlv_c d) (t := t) ht hw hp hbx h0 h1 h5 hrow hb0 hb1 hL3
              · rw [show plainS (d + 1) t 6 = _ from plain_else h1' h2 h3 h4 h5] at hp
                cases hp
end Go.Proofs.Ytcggghamnmflcaa
namespace Go.Proofs.Ytcggghamnmflcaa
open Go Go.RowKit Go.Shelf
theorem RTr.nil_below {W W1 : World} {v : Value} (h : RTr W (.slice none 0 0) W1 v) : Below W.heap.size W W1 := ⟨h.g.os, h.g.tape, h.g.output, h.g.size, fun i hi => h.g.block i hi (by simp [Value.ownBlock])⟩
theorem leafE_of {d : Nat} {t : Tp d} (h : errS d t = 0) : (2000 < (leavesS d t 0).length ∧ leafE d t = 101 ∧ leafL d t = []) ∨ ((leavesS d t 0).length ≤ 2000 ∧ leafE d t = 0 ∧ leafL d t = leavesS d t 0) := by
  unfold leafL leafE
  rw [if_pos h]
  by_cases hl : 2000 < (leavesS d t 0).length
  · rw [if_pos hl, if_neg (by decide)]
    exact .inl ⟨hl, rfl, rfl⟩
  · rw [if_neg hl, if_pos rfl]
    exact .inr ⟨by omega, rfl, rfl⟩
theorem leaf_bad {d : Nat} {t : Tp d} (h : errS d t ≠ 0) : leafE d t = errS d t ∧ leafL d t = [] := by
  unfold leafL leafE
  rw [if_neg h, if_neg h]
  exact ⟨rfl, rfl⟩
theorem leafL_2000 (d : Nat) (t : Tp d) : (leafL d t).length ≤ 2000 := by
  by_cases h : errS d t = 0
  · rcases leafE_of h with ⟨_, _, e⟩ | ⟨h2, _, e⟩
    · rw [e]; simp
    · rw [e]; exact h2
  · rw [(leaf_bad h).2]; simp
set_option maxRecDepth 100000 in
set_option maxHeartbeats 4000000 in
theorem rLeaves_c {d : Nat} {t : Tp d} {v0 v1 v2 v3 v4 v5 v6 : Value} {w : World} (ht : TyAt w d t [v0, v1, v2, v3, v4, v5, v6]) :
    Calls Try.prog 53 #[.agg #[v0, v1, v2, v3, v4, v5, v6]] w fun e w' => ∃ (A : Option Addr) (n c : Nat), e = .returned (.tuple #[.slice A n c, .int .i64 (leafE d t)]) ∧ Spts w.heap.size w' A n (leafL d t) ∧ Below w.heap.size w w' := by
  have HR := fun w' (hb : Below w.heap.size w w') => rOf_c (ht.below hb)
  unfold OfP at HR
  obtain ⟨er, her⟩ : ∃ x, errS d t = x := ⟨_, rfl⟩
  rw [her] at HR
  replace HR := Lib.hid HR
  have HE := Lib.hid her
  have HT := Lib.hid ht
  clear her ht
  cases hq : (er == 0) with
  | false =>
    have h' : (er != 0) = true := by rw [bne, hq]; rfl
    have H0 := Lib.hid (show er ≠ 0 by simpa using hq)
    go_enter Try.func53, Try.ntmps53
    go_wp2_with fail
    refine (HR.out _ (bel_alloc (Below.refl _ _) _)).mono ?_
    rintro e w1 ⟨A, n, c, rfl, hb1, -, -⟩
    have HB1 := Lib.hid (bel_alloc (bel_then (bel_alloc (Below.refl _ _) _) hb1) (.cells #[.int .i64 (szS d t), .int .i64 (agS d t), .bool false, .slice A n c] 58))
    clear hb1
    go_wp2_with fail
    go_ret2
    have hE := leaf_bad (t := t) (show errS d t ≠ 0 by rw [HE.out]; exact H0.out)
    refine ⟨none, 0, 0, ?_, ?_, HB1.out⟩
    · rw [hE.1, HE.out]; rfl
    · rw [hE.2]; exact ⟨⟨rfl, fun i s hs => by simp at hs⟩, fun a ha => by cases ha⟩
  | true =>
    obtain rfl : er = 0 := by simpa using hq
    clear hq
    obtain ⟨hpl, hbx⟩ := err_0 HE.out
    have hok := boxS_ok d t 6 _ hpl hbx
    have HPL := Lib.hid hpl
    have HBX := Lib.hid hbx
    have HOK := Lib.hid hok
    clear hpl hbx hok
    go_enter Try.func53, Try.ntmps53
    go_wp2_with fail
    refine (HR.out _ (bel_alloc (Below.refl _ _) _)).mono ?_
    rintro e w1 ⟨A, n, c, rfl, hb1, -, -⟩
    have hT1 := (Bk.new w 38 #[v0, v1, v2, v3, v4, v5, v6]).below hb1 (by simp)
    have t0 := hT1.at_ (i := 0) rfl; have t1 := hT1.at_ (i := 1) rfl; have t2 := hT1.at_ (i := 2) rfl; have t3 := hT1.at_ (i := 3) rfl; have t4 := hT1.at_ (i := 4) rfl; have t5 := hT1.at_ (i := 5) rfl; have t6 := hT1.at_ (i := 6) rfl
    have hlt1 := hT1.lt
    have HB1 := Lib.hid (bel_alloc (bel_then (bel_alloc (Below.refl _ _) _) hb1) (.cells #[.int .i64 (szS d t), .int .i64 (agS d t), .bool false, .slice A n c] 58))
    clear hb1
    go_wp2_with fail
    generalize hW : World.alloc w1 _ = W2 at HB1 ⊢
    clear hW t0 t1 t2 t3 t4 t5 t6 hT1 hlt1
    refine (rlv_c d w t _ v0 v1 v2 v3 v4 v5 v6 (boxD d t) 0 W2.heap.size (.slice none 0 0) [] W2 rfl HT.out HB1.out HPL.out HBX.out (by omega) (by have := HOK.out.2.1; omega) (World.ownsRow_nil _ _ _ _) HB1.out.size (Nat.le_refl _) (by simp)).mono ?_
    rintro e w3 ⟨v3, rfl, hro, htr⟩
    rw [List.nil_append] at hro
    obtain ⟨X, hX⟩ : ∃ X, (leavesS d t 0).take 2001 = X := ⟨_, rfl⟩
    rw [hX] at hro
    obtain ⟨A3, c3, rfl, hsp⟩ := spts_of_row hro
    have HSP := Lib.hid hsp
    have HB3 := Lib.hid (bel_then HB1.out htr.nil_below)
    have HX := Lib.hid hX
    have hXl : X.length ≤ 2001 := by rw [← hX]; exact List.length_take_le _ _
    clear hsp htr hro hX
    by_cases hl : 2000 < X.length
    · have hlen : 2000 < (leavesS d t 0).length := by have := HX.out; rw [← this, List.length_take] at hl; omega
      rcases leafE_of HE.out with ⟨_, e1, e2⟩ | ⟨h2, _, _⟩
      · have E1 := Lib.hid e1
        have E2 := Lib.hid e2
        clear e1 e2 hlen
        go_wp2_with fail
        go_ret2
        refine ⟨none, 0, 0, ?_, ?_, HB3.out⟩
        · rw [E1.out]; rfl
        · rw [E2.out]; exact ⟨⟨rfl, fun i s hs => by simp at hs⟩, fun a ha => by cases ha⟩
      · omega
    · have hlen : (leavesS d t 0).length ≤ 2000 := by have := HX.out; rw [← this, List.length_take] at hl; omega
      rcases leafE_of HE.out with ⟨h2, _, _⟩ | ⟨_, e1, e2⟩
      · omega
      · have E1 := Lib.hid e1
        have E2 := Lib.hid (show leafL d t = X by rw [e2, ← HX.out, List.take_of_length_le (by omega)])
        clear e1 e2 hlen
        go_wp2_with fail
        go_ret2
        refine ⟨A3, X.length, c3, ?_, ?_, HB3.out⟩
        · rw [E1.out]; rfl
        · rw [E2.out]
          have := HB1.out.size
          exact ⟨HSP.out.1, fun a ha => Nat.le_trans this (HSP.out.2 a ha)⟩
set_option maxRecDepth 100000 in
theorem shapeLeaves_w (d : Nat) (t : Tp d) (v0 v1 v2 v3 v4 v5 v6 : Value) (w : World) (ht : TyAt w d t [v0, v1, v2, v3, v4, v5, v6]) :
    Calls Try.prog 15 #[.agg #[v0, v1, v2, v3, v4, v5, v6]] w fun e w' => e = .returned (.bool true) ∧ Below w.heap.size w w' := by
  have H4 := Lib.hid (leafL_2000 d t)
  obtain ⟨er, her⟩ : ∃ x, leafE d t = x := ⟨_, rfl⟩
  have HM := fun w' (hb : Below w.heap.size w w') => leaves40_c (ht.below hb)
  have HR := fun w' (hb : Below w.heap.size w w') => rLeaves_c (ht.below hb)
  rw [her] at HM HR
  replace HM := Lib.hid HM
  replace HR := Lib.hid HR
  clear her ht
  go_enter Try.func15, Try.ntmps15
  go_wp2_with fail
  refine (shown44_c _).mono ?_
  rintro e w1 ⟨rfl, hb1⟩
  have hT1 := (Bk.new w 38 #[v0, v1, v2, v3, v4, v5, v6]).below hb1 (by simp)
  have t0 := hT1.at_ (i := 0) rfl; have t1 := hT1.at_ (i := 1) rfl; have t2 := hT1.at_ (i := 2) rfl; have t3 := hT1.at_ (i := 3) rfl; have t4 := hT1.at_ (i := 4) rfl; have t5 := hT1.at_ (i := 5) rfl; have t6 := hT1.at_ (i := 6) rfl
  have HB1 := Lib.hid (bel_then (bel_alloc (Below.refl _ _) _) hb1)
  clear hb1
  go_wp2_with fail
  refine (HM.out _ HB1.out).mono ?_
  rintro e w2 ⟨A, n, c, rfl, hA, hb2⟩
  have hT2 := hT1.below hb2 hT1.lt
  clear t0 t1 t2 t3 t4 t5 t6 hT1
  have t0 := hT2.at_ (i := 0) rfl; have t1 := hT2.at_ (i := 1) rfl; have t2 := hT2.at_ (i := 2) rfl; have t3 := hT2.at_ (i := 3) rfl; have t4 := hT2.at_ (i := 4) rfl; have t5 := hT2.at_ (i := 5) rfl; have t6 := hT2.at_ (i := 6) rfl
  have HB2 := Lib.hid (bel_then HB1.out hb2)
  have HA := Lib.hid hA
  clear hb2 hA
  go_wp2_with fail
  refine (HR.out _ HB2.out).mono ?_
  rintro e w3 ⟨A', n', c', rfl, hA', hb3⟩
  have hS := sameSpots_c A A' n n' c c' _ _ w3 (HA.out.1.below hb3) hA'.1 (by have := HA.out.1.1; have := H4.out; omega) (by have := hA'.1.1; have := H4.out; omega)
  rw [decide_eq_true rfl] at hS
  have HS := Lib.hid hS
  have HB3 := Lib.hid (bel_then HB2.out hb3)
  clear hS hb3 hA' t0 t1 t2 t3 t4 t5 t6
  go_wp2_with fail
  refine HS.out.mono ?_
  rintro e w4 ⟨rfl, hb4⟩
  go_wp2_with fail
  go_ret
  exact ⟨rfl, bel_then HB3.out hb4⟩
end Go.Proofs.Ytcggghamnmflcaa
