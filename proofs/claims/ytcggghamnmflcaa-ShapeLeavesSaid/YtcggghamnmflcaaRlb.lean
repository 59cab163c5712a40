/- The reference's leaves at integers and pointers, and where nothing more may come. -/
import Derived.Test.YtcggghamnmflcaaRla
namespace Go.Proofs.Ytcggghamnmflcaa
open Go Go.RowKit Go.Shelf
theorem row_below {W W1 : World} {base n : Nat} {S : Value} {xs : List Value} (h : W.ownsRow base 48 3 S n xs) (hb : Below W.heap.size W W1) : W1.ownsRow base 48 3 S n xs := h.kept (grown_none hb) (by cases S.ownBlock <;> simp)
theorem new_cells1 (W : World) (o : Obj) (cs : Array Value) (T : TypeId) : ∀ j u, cs.toList[j]? = some u → ((W.alloc o).alloc (.cells cs T)).cell? ((⟨W.heap.size + 1, 0, none⟩ : Addr).add j) = some u := by
  have := new_cells (W.alloc o) cs T
  rwa [World.size_alloc] at this
set_option maxRecDepth 100000 in
set_option maxHeartbeats 4000000 in
theorem rlv_full {d : Nat} {t : Tp d} {v0 v1 v2 v3 v4 v5 v6 : Value} {fr : Int} {base : Nat} {v : Value} {L : List Spt} {w w0 : World} (ht : TyAt w0 d t [v0, v1, v2, v3, v4, v5, v6]) (hrow : w.ownsRow base 48 3 v L.length (sptC L)) (hL : L.length = 2001) :
    Calls Try.prog 88 #[v, .agg #[v0, v1, v2, v3, v4, v5, v6], .int .i64 fr] w fun e w' => ∃ v', e = .returned v' ∧ w'.ownsRow base 48 3 v' ((L ++ leavesS d t fr).take 2001).length (sptC ((L ++ leavesS d t fr).take 2001)) ∧ RTr w v w' v' := by
  obtain ⟨n0, A1, A2, n1, n2, c1, c2, pk, al, hcs⟩ := ht.form
  simp only [List.cons.injEq, and_true] at hcs
  obtain ⟨rfl, rfl, rfl, rfl, rfl, rfl, rfl⟩ := hcs
  obtain ⟨A, c, rfl, hsp⟩ := spts_of_row hrow
  have e1 : (L ++ leavesS d t fr).take 2001 = L := by
    rw [List.take_append_of_le_length (by omega), List.take_of_length_le (by omega)]
  rw [e1]
  have g1 : 2000 < L.length := by omega
  have g2 : L.length ≤ 9223372036854775807 := by omega
  clear hL ht e1
  go_enter Try.func88, Try.ntmps88
  go_wp2_with fail
  go_ret
  exact ⟨_, rfl, row_below hrow (bel_alloc (Below.refl _ _) _), RTr.below (bel_alloc (Below.refl _ _) _)⟩
set_option maxRecDepth 100000 in
set_option maxHeartbeats 4000000 in
theorem rlv_int {d : Nat} {t : Nd (Tp d)} {v0 v1 v2 v3 v4 v5 v6 : Value} {b : Bx} {fr : Int} {base : Nat} {v : Value} {L : List Spt} {w w0 : World} (ht : TyAt w0 (d + 1) t [v0, v1, v2, v3, v4, v5, v6]) (hw : Below w0.heap.size w0 w) (hp : plainS (d + 1) t 6 = true) (hbx : boxS (d + 1) t = some b) (_h1 : fr + 8 * b.size ≤ 1000000) (_h0 : 0 ≤ fr) (hs : t.sh = 1)
    (hrow : w.ownsRow base 48 3 v L.length (sptC L)) (hbs : base ≤ w.heap.size) (hL : L.length ≤ 2000) :
    Calls Try.prog 88 #[v, .agg #[v0, v1, v2, v3, v4, v5, v6], .int .i64 fr] w fun e w' => ∃ v', e = .returned v' ∧ w'.ownsRow base 48 3 v' ((L ++ leavesS (d + 1) t fr).take 2001).length (sptC ((L ++ leavesS (d + 1) t fr).take 2001)) ∧ RTr w v w' v' := by
  have HB := Lib.hid (fun w' (hb : Below w.heap.size w w') => box_c (d + 1) t 6 v0 v1 v2 v3 v4 v5 v6 w' hp (ht.below (hw.trans (hb.mono hw.size))))
  have hok := boxS_ok (d + 1) t 6 b hp hbx
  have hX : leavesS (d + 1) t fr = [⟨fr, 8 * ksize t.k, t.k⟩] := by
    show (if Nd.sh t = 1 then _ else _) = _
    rw [if_pos hs]
  obtain ⟨X, hXX⟩ : ∃ X, leavesS (d + 1) t fr = X := ⟨_, rfl⟩
  rw [hXX] at hX ⊢
  have hbz : b.size = ksize t.k := by have := boxS_int (d := d + 1) (t := t) hs; rw [hbx] at this; cases this; rfl
  obtain ⟨A1, A2, c1, c2, hcs, b1, b2, b3, b4, l1, l2, m1, m2, hof, hfs⟩ := id ht
  clear hof hfs
  simp only [List.cons.injEq, and_true] at hcs
  obtain ⟨rfl, rfl, rfl, rfl, rfl, rfl, rfl⟩ := hcs
  obtain ⟨A, c, rfl, hsp⟩ := spts_of_row hrow
  obtain ⟨sz, hsz⟩ : ∃ sz, b.size = sz := ⟨_, rfl⟩
  obtain ⟨sh, hsh⟩ : ∃ x, t.sh = x := ⟨_, rfl⟩
  obtain ⟨k, hk⟩ : ∃ x, t.k = x := ⟨_, rfl⟩
  rw [hsh] at hs
  subst hs
  rw [← hbz, hsz, hk] at hX
  rw [hsh, hk] at HB ⊢
  have hz1 : 1 ≤ sz := by have := hok.1; omega
  have hz2 : sz ≤ 65536 := by have := hok.2.1; omega
  have HX := Lib.hid hX
  have HBX := Lib.hid hbx
  have HSZ := Lib.hid hsz
  have HR := Lib.hid hrow
  clear hX hXX hbx hsz hsh hk hok hrow hsp ht hp hw hbz
  go_enter Try.func88, Try.ntmps88
  go_wp2_with fail
  refine (HB.out _ (bel_alloc (Below.refl _ _) _)).mono ?_
  rintro e w1 ⟨bsz, bag, big, xA, xn, xc, rfl, hb1, hx⟩
  obtain ⟨rfl, rfl⟩ : big = false ∧ bsz = sz := by
    rcases hx with ⟨h, _⟩ | ⟨b', h, e1, e2, _⟩
    · rw [HBX.out] at h; cases h
    · rw [HBX.out] at h; cases h; exact ⟨e1, e2.trans HSZ.out⟩
  have hT1 := (Bk.new w 38 #[.int .i64 1, .int .i64 k, .int .i64 t.n, .slice A1 t.of.length c1, .slice A2 t.fs.length c2, .bool t.pk, .int .i64 t.al]).below hb1 (by simp)
  have t0 := hT1.at_ (i := 0) rfl
  have t1 := hT1.at_ (i := 1) rfl
  have hb2 := bel_alloc (bel_then (bel_alloc (Below.refl _ _) _) hb1) (.cells #[.int .i64 bsz, .int .i64 bag, .bool false, .slice xA xn xc] 58)
  have hrow2 := row_below HR.out hb2
  have hs2 := hb2.size
  have hlt1 := hT1.lt
  obtain ⟨i0, hi0, hz0', hz1', hz2'⟩ := info_parts info48
  have HB2 := Lib.hid hb2
  clear hb1 hx hb2
  go_wp2_with (at_builtin; refine wpList_append_own_at _ rfl (.tmp 22) (.tmp 30) 42 rfl base 48 i0 _ 3 24 Try.underlying42 hi0 hz0' hz1' hz2' rfl (by decide) _ _ _ rfl (hrow2.alloc _) ⟨w1.heap.size + 1, 0, none⟩ 1 1 [.int .i64 fr, .int .i64 (8 * bsz), .int .i64 k] rfl rfl (new_cells1 _ _ _ _) (by simp [Value.oneCell']) (by unfold maxLen; omega) (by omega) (by simp at hs2 ⊢; omega) ?_; intro v7 w7 hown' hgrow _ hat; have HG := Lib.hid hgrow; have HO := Lib.hid hown'; have HA := Lib.hid hat; clear hgrow hown' hat)
  go_ret
  have hO : w7.ownsRow base 48 3 v7 (L ++ [(⟨fr, 8 * bsz, k⟩ : Spt)]).length (sptC (L ++ [(⟨fr, 8 * bsz, k⟩ : Spt)])) := by
    rw [sptC_snoc, List.length_append]
    exact HO.out
  have e1 : (L ++ X).take 2001 = L ++ [⟨fr, 8 * bsz, k⟩] := by rw [HX.out, List.take_of_length_le (by simp; omega)]
  refine ⟨_, rfl, ?_, (RTr.below HB2.out).trans (RTr.app HG.out HA.out)⟩
  rw [e1]
  exact hO
set_option maxRecDepth 100000 in
set_option maxHeartbeats 4000000 in
theorem rlv_ptr {d : Nat} {t : Nd (Tp d)} {v0 v1 v2 v3 v4 v5 v6 : Value} {b : Bx} {fr : Int} {base : Nat} {v : Value} {L : List Spt} {w w0 : World} (ht : TyAt w0 (d + 1) t [v0, v1, v2, v3, v4, v5, v6]) (hw : Below w0.heap.size w0 w) (hp : plainS (d + 1) t 6 = true) (hbx : boxS (d + 1) t = some b) (_h1 : fr + 8 * b.size ≤ 1000000) (_h0 : 0 ≤ fr) (hs : t.sh = 2)
    (hrow : w.ownsRow base 48 3 v L.length (sptC L)) (hbs : base ≤ w.heap.size) (hL : L.length ≤ 2000) :
    Calls Try.prog 88 #[v, .agg #[v0, v1, v2, v3, v4, v5, v6], .int .i64 fr] w fun e w' => ∃ v', e = .returned v' ∧ w'.ownsRow base 48 3 v' ((L ++ leavesS (d + 1) t fr).take 2001).length (sptC ((L ++ leavesS (d + 1) t fr).take 2001)) ∧ RTr w v w' v' := by
  have HB := Lib.hid (fun w' (hb : Below w.heap.size w w') => box_c (d + 1) t 6 v0 v1 v2 v3 v4 v5 v6 w' hp (ht.below (hw.trans (hb.mono hw.size))))
  have hok := boxS_ok (d + 1) t 6 b hp hbx
  have hX : leavesS (d + 1) t fr = [⟨fr, 64, 8⟩] := by
    show (if Nd.sh t = 1 then _ else _) = _
    rw [if_neg (by omega), if_pos hs]
  obtain ⟨X, hXX⟩ : ∃ X, leavesS (d + 1) t fr = X := ⟨_, rfl⟩
  rw [hXX] at hX ⊢
  obtain ⟨A1, A2, c1, c2, hcs, b1, b2, b3, b4, l1, l2, m1, m2, hof, hfs⟩ := id ht
  clear hof hfs
  simp only [List.cons.injEq, and_true] at hcs
  obtain ⟨rfl, rfl, rfl, rfl, rfl, rfl, rfl⟩ := hcs
  obtain ⟨A, c, rfl, hsp⟩ := spts_of_row hrow
  obtain ⟨sz, hsz⟩ : ∃ sz, b.size = sz := ⟨_, rfl⟩
  obtain ⟨sh, hsh⟩ : ∃ x, t.sh = x := ⟨_, rfl⟩
  obtain ⟨k, hk⟩ : ∃ x, t.k = x := ⟨_, rfl⟩
  rw [hsh] at hs
  subst hs
  rw [hsh, hk] at HB ⊢
  have hz1 : 1 ≤ sz := by have := hok.1; omega
  have hz2 : sz ≤ 65536 := by have := hok.2.1; omega
  have HX := Lib.hid hX
  have HBX := Lib.hid hbx
  have HSZ := Lib.hid hsz
  have HR := Lib.hid hrow
  clear hX hXX hbx hsz hsh hk hok hrow hsp ht hp hw 
  go_enter Try.func88, Try.ntmps88
  go_wp2_with fail
  refine (HB.out _ (bel_alloc (Below.refl _ _) _)).mono ?_
  rintro e w1 ⟨bsz, bag, big, xA, xn, xc, rfl, hb1, hx⟩
  obtain ⟨rfl, rfl⟩ : big = false ∧ bsz = sz := by
    rcases hx with ⟨h, _⟩ | ⟨b', h, e1, e2, _⟩
    · rw [HBX.out] at h; cases h
    · rw [HBX.out] at h; cases h; exact ⟨e1, e2.trans HSZ.out⟩
  have hT1 := (Bk.new w 38 #[.int .i64 2, .int .i64 k, .int .i64 t.n, .slice A1 t.of.length c1, .slice A2 t.fs.length c2, .bool t.pk, .int .i64 t.al]).below hb1 (by simp)
  have t0 := hT1.at_ (i := 0) rfl
  have t1 := hT1.at_ (i := 1) rfl
  have hb2 := bel_alloc (bel_then (bel_alloc (Below.refl _ _) _) hb1) (.cells #[.int .i64 bsz, .int .i64 bag, .bool false, .slice xA xn xc] 58)
  have hrow2 := row_below HR.out hb2
  have hs2 := hb2.size
  have hlt1 := hT1.lt
  obtain ⟨i0, hi0, hz0', hz1', hz2'⟩ := info_parts info48
  have HB2 := Lib.hid hb2
  clear hb1 hx hb2
  go_wp2_with (at_builtin; refine wpList_append_own_at _ rfl (.tmp 34) (.tmp 37) 42 rfl base 48 i0 _ 3 24 Try.underlying42 hi0 hz0' hz1' hz2' rfl (by decide) _ _ _ rfl (hrow2.alloc _) ⟨w1.heap.size + 1, 0, none⟩ 1 1 [.int .i64 fr, .int .i64 64, .int .i64 8] rfl rfl (new_cells1 _ _ _ _) (by simp [Value.oneCell']) (by unfold maxLen; omega) (by omega) (by simp at hs2 ⊢; omega) ?_; intro v7 w7 hown' hgrow _ hat; have HG := Lib.hid hgrow; have HO := Lib.hid hown'; have HA := Lib.hid hat; clear hgrow hown' hat)
  go_ret
  have hO : w7.ownsRow base 48 3 v7 (L ++ [(⟨fr, 64, 8⟩ : Spt)]).length (sptC (L ++ [(⟨fr, 64, 8⟩ : Spt)])) := by
    rw [sptC_snoc, List.length_append]
    exact HO.out
  have e1 : (L ++ X).take 2001 = L ++ [⟨fr, 64, 8⟩] := by rw [HX.out, List.take_of_length_le (by simp; omega)]
  refine ⟨_, rfl, ?_, (RTr.below HB2.out).trans (RTr.app HG.out HA.out)⟩
  rw [e1]
  exact hO
end Go.Proofs.Ytcggghamnmflcaa
