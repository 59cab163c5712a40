/- over: an argument is handed over. -/
import Derived.Test.YtcggghamnmflcaaGd
import Derived.Test.YtcggghamnmflcaaSsa
import Derived.Deep.RegionHeld3
import Derived.Deep.AppendLies
namespace Go.Proofs.Ytcggghamnmflcaa
open Go Go.RowKit Go.Shelf
attribute [local go_sem] wide_fn mx2_int mx_two Oper.semAt_some
def plwC (L : List Plw) : List Value := L.flatMap fun s => [.int .i64 s.arg, .int .i64 s.eight, .int .i64 s.reg, .int .i64 s.off]
/-- What the hand holds. -/
structure HndI (w0 : World) (H : Nat) (A : Option Addr) (n c : Nat) (L : List Plw) (r top : Int) (S : Option Addr) (sc : Nat) (W : World) : Prop where
  h : Bk W H 141 #[.slice S L.length sc, .int .i64 r, .int .i64 top, .slice A n c]
  row : W.ownsRow w0.heap.size 87 4 (.slice S L.length sc) L.length (plwC L)
  bel : Below w0.heap.size w0 W
  hH : w0.heap.size ≤ H
theorem info87 : (Try.prog.info? 87).map (fun i => (i.zero, i.size, i.bytes)) = some (some (.agg #[.int .i64 0, .int .i64 0, .int .i64 0, .int .i64 0]), 4, 32) := by kernel_rfl
theorem Bk.ne_row87 {W : World} {g : Nat} {t : TypeId} {cs : Array Value} (h : Bk W g t cs) (ht : t ≠ 87) {base n : Nat} {S : Value} {L : List Value} (hr : W.ownsRow base 87 4 S n L) : some g ≠ S.ownBlock := fun e => by
  rcases hr.2 with ⟨rfl, _⟩ | ⟨g', cap, cur, rfl, _, hh, _⟩
  · simp [Value.ownBlock] at e
  · have : g = g' := by simpa [Value.ownBlock] using e
    subst this
    have h' : W.heap[g]? = some (.cells cs t (0, 0)) := h
    rw [h'] at hh
    simp at hh
    exact ht hh.2
theorem keeps_app87 {C base n : Nat} {W0 W W1 : World} {S : Value} {L : List Value} (h : KeepsFrom C W0 W) (hr : W.ownsRow base 87 4 S n L) (hg : W.grownBy W1 S.ownBlock) : KeepsFrom C W0 W1 :=
  h.trans ((KeepsOthers.of_grownBy hg (fun j o e ho => by
    rcases hr.2 with ⟨rfl, _⟩ | ⟨g', cap, cur, rfl, _, hh, _⟩
    · simp [Value.ownBlock] at e
    · have : g' = j := by simpa [Value.ownBlock] using e
      subst this
      rw [hh] at ho
      cases ho
      rfl)).from _)
theorem own87 {W : World} {base n : Nat} {S : Value} {xs : List Value} (h : W.ownsRow base 87 4 S n xs) : ∀ g, S.ownBlock = some g → base ≤ g ∧ g < W.heap.size := fun g hg => by
  rcases h.2 with ⟨rfl, _⟩ | ⟨g', cap, cur, rfl, hb, hh, _⟩
  · simp [Value.ownBlock] at hg
  · have : g' = g := by simpa [Value.ownBlock] using hg
    subst this
    exact ⟨hb, (Array.getElem?_eq_some_iff.1 hh).1⟩
theorem plwC_snoc (L : List Plw) (s : Plw) : plwC (L ++ [s]) = plwC L ++ [.int .i64 s.arg, .int .i64 s.eight, .int .i64 s.reg, .int .i64 s.off] := by simp [plwC]
/-- One place more. -/
theorem hnd_step {w0 : World} {H : Nat} {A : Option Addr} {n c : Nat} {P' : List Plw} {r' top : Int} {S' : Option Addr} {sc' : Nat} {W Wd w7 : World} {o : Obj} {x : Plw} {g5 c5 : Nat}
    (hI : HndI w0 H A n c P' r' top S' sc' W) (hb : Below W.heap.size W Wd)
    (hown : w7.ownsRow w0.heap.size 87 4 (.slice (some ⟨g5, 0, none⟩) (P'.length + 1) c5) (P'.length + 1) (plwC P' ++ [.int .i64 x.arg, .int .i64 x.eight, .int .i64 x.reg, .int .i64 x.off]))
    (hg : (Wd.alloc o).grownBy w7 (Value.slice S' P'.length sc').ownBlock) :
    HndI w0 H A n c (P' ++ [x]) r' top (some ⟨g5, 0, none⟩) c5 (w7.setCell ⟨H, 0, none⟩ (.slice (some ⟨g5, 0, none⟩) (P'.length + 1) c5)) := by
  have hn := hI.h.ne_row87 (by decide) hI.row
  have h7 := ((hI.h.below hb hI.h.lt).alloc o).grown hg hn
  have hH7 := h7.ne_row87 (by decide) hown
  have hlen : (P' ++ [x]).length = P'.length + 1 := by simp
  refine ⟨?_, ?_, ?_, hI.hH⟩
  · rw [hlen]
    have e := h7.set_ 0 (.slice (some ⟨g5, 0, none⟩) (P'.length + 1) c5)
    simp only [List.setIfInBounds_toArray, List.set_cons_zero] at e
    exact e
  · rw [hlen, plwC_snoc]
    exact hown.kept (row := some H) (grown_set w7 H 0 _) (.inr (Ne.symm hH7))
  · have h1 : Below w0.heap.size w0 (Wd.alloc o) := (hI.bel.trans (hb.mono hI.bel.size)).alloc (by have := hI.bel.size; have := hb.size; omega) o
    have h2 := h1.grown hg h1.size (fun k e => (own87 hI.row k e).1)
    exact h2.setCell (p := ⟨H, 0, none⟩) hI.hH _
theorem HndI.setR {w0 : World} {H : Nat} {A : Option Addr} {n c : Nat} {L : List Plw} {r top : Int} {S : Option Addr} {sc : Nat} {W : World} (h : HndI w0 H A n c L r top S sc W) (v : Int) : HndI w0 H A n c L v top S sc (W.setCell ⟨H, 1, none⟩ (.int .i64 v)) := by
  have e := h.h.set_ 1 (.int .i64 v)
  simp only [List.setIfInBounds_toArray, List.set_cons_zero, List.set_cons_succ] at e
  exact ⟨e, h.row.kept (row := some H) (grown_set W H 1 _) (.inr (Ne.symm (h.h.ne_row87 (by decide) h.row))), h.bel.setCell (p := ⟨H, 1, none⟩) h.hH _, h.hH⟩
theorem HndI.setT {w0 : World} {H : Nat} {A : Option Addr} {n c : Nat} {L : List Plw} {r top : Int} {S : Option Addr} {sc : Nat} {W : World} (h : HndI w0 H A n c L r top S sc W) (v : Int) : HndI w0 H A n c L r v S sc (W.setCell ⟨H, 2, none⟩ (.int .i64 v)) := by
  have e := h.h.set_ 2 (.int .i64 v)
  simp only [List.setIfInBounds_toArray, List.set_cons_zero, List.set_cons_succ] at e
  exact ⟨e, h.row.kept (row := some H) (grown_set W H 2 _) (.inr (Ne.symm (h.h.ne_row87 (by decide) h.row))), h.bel.setCell (p := ⟨H, 2, none⟩) h.hH _, h.hH⟩
/-- A block beside the hand behind an append and two stores into the hand. -/
theorem bk_over {W Wd w7 : World} {o : Obj} {g H a b : Nat} {t : TypeId} {cs : Array Value} {base n : Nat} {S u v : Value} {xs : List Value} (h : Bk W g t cs) (ht : t ≠ 87) (hr : W.ownsRow base 87 4 S n xs) (hb : Below W.heap.size W Wd) (hg : (Wd.alloc o).grownBy w7 S.ownBlock) (hH : g ≠ H) :
    Bk ((w7.setCell ⟨H, a, none⟩ u).setCell ⟨H, b, none⟩ v) g t cs :=
  ((((h.below hb h.lt).alloc o).grown hg (h.ne_row87 ht hr)).far hH u).far hH v
theorem cb_over {W Wd w7 : World} {o : Obj} {H a b Cb : Nat} {S : Value} {u v : Value} (hb : Below W.heap.size W Wd) (hg : (Wd.alloc o).grownBy w7 S.ownBlock) (hl : Cb < W.heap.size) (hH : Cb ≠ H) (hne : some Cb ≠ S.ownBlock) :
    ((w7.setCell ⟨H, a, none⟩ u).setCell ⟨H, b, none⟩ v).heap[Cb]? = W.heap[Cb]? := by
  have hs := hb.size
  exact (Below.heap_setCell _ ⟨H, b, none⟩ v Cb hH).trans ((Below.heap_setCell _ ⟨H, a, none⟩ u Cb hH).trans ((hg.block Cb (by simp; omega) hne).trans ((Below.heap_alloc Wd o Cb (by omega)).trans (hb.block Cb hl))))
theorem own_next {v : Value} {g5 n c5 Hs Cb : Nat} (hat : v.ownBlock = some g5 ∨ g5 = Hs) (hne : v.ownBlock ≠ some Cb) (hl : Cb < Hs) : (Value.slice (some ⟨g5, 0, none⟩) n c5).ownBlock ≠ some Cb := by
  intro e
  have e' : g5 = Cb := by simpa [Value.ownBlock] using e
  rcases hat with h | h
  · exact hne (by rw [h, e'])
  · omega
theorem HndI.below {w0 : World} {H : Nat} {A : Option Addr} {n c : Nat} {L : List Plw} {r top : Int} {S : Option Addr} {sc : Nat} {W W1 : World} (h : HndI w0 H A n c L r top S sc W) (hb : Below W.heap.size W W1) : HndI w0 H A n c L r top S sc W1 :=
  ⟨h.h.below hb h.h.lt, h.row.kept (grown_none hb) (by cases (Value.slice S L.length sc).ownBlock <;> simp), h.bel.trans (hb.mono h.bel.size), h.hH⟩
theorem Clsz {d : Nat} {t : Tp d} (h : clsE d t = 0) : errS d t = 0 ∧ 1 ≤ szS d t ∧ szS d t ≤ 65536 := by
  have h0 : errS d t = 0 := by
    unfold clsE at h
    split at h
    · assumption
    · rename_i h0; exact absurd h h0
  obtain ⟨q1, q2⟩ := err_0 h0
  have hok := boxS_ok d t 6 _ q1 q2
  have hsz : szS d t = (boxD d t).size := by unfold szS; rw [if_pos h0]
  have := hok.1
  have := hok.2.1
  exact ⟨h0, by omega, by omega⟩
theorem agS_rng {d : Nat} {t : Tp d} (h : clsE d t = 0) : 1 ≤ agS d t ∧ agS d t ≤ 64 := by
  obtain ⟨h0, _, _⟩ := Clsz h
  obtain ⟨q1, q2⟩ := err_0 h0
  have hok := boxS_ok d t 6 _ q1 q2
  have hag : agS d t = (boxD d t).align := by unfold agS; rw [if_pos h0]
  rw [hag]
  exact hok.2.2
theorem cup_q (v n : Int) (w : World) (k : Nat) (h0 : 0 ≤ v) (h1 : v ≤ 1000000000000) (h2 : 1 ≤ n) (h3 : n ≤ 1000000000000) : Calls Try.prog 102 #[.int .i64 v, .int .i64 n] (w.drewN k) fun e w'' => e = .returned (.int .i64 (upS v n)) ∧ ∃ m, w'' = w.drewN m :=
  (cup_c v n _ h0 h1 h2 h3).mono fun _ _ ⟨a, b⟩ => ⟨a, k, b.symm⟩
theorem cls_len {d : Nat} {t : Tp d} (h : clsE d t = 0) : 1 ≤ (clsL d t).length ∧ (clsL d t).length ≤ 2 := by
  obtain ⟨p1, p2, p3⟩ := Clsz h
  unfold clsL
  rw [if_pos h]
  split
  · simp
  · rename_i h2
    simp only [clsV, List.length_map, List.length_range]
    omega
def regL (i : Nat) (r : Int) (pre : List (Nat × Bool)) : List Plw := pre.mapIdx fun q x => ⟨i, x.1, r + q, 0⟩
theorem regL_snoc (i : Nat) (r : Int) (pre : List (Nat × Bool)) (x : Nat × Bool) : regL i r (pre ++ [x]) = regL i r pre ++ [⟨i, x.1, r + pre.length, 0⟩] := by
  unfold regL
  rw [List.mapIdx_append]
  simp
/-- What an argument's hand-over adds; the registers taken behind it; the stack's top behind it. -/
def ovL (i : Nat) (r top : Int) (l : List Int) (sz ag : Int) : List Plw :=
  if fitsS r l = true then regL i r (evN r l l.length) else (List.range ((upS sz 8) / 8).toNat).map fun (q : Nat) => (⟨i, q, -1, upS top (mx 8 ag) + 8 * q⟩ : Plw)
def ovR (r : Int) (l : List Int) : Int := if fitsS r l = true then r + (evN r l l.length).length else r
def ovT (r top : Int) (l : List Int) (sz ag : Int) : Int := if fitsS r l = true then top else upS top (mx 8 ag) + 8 * (((upS sz 8) / 8).toNat : Nat)
structure OvI (w0 : World) (H : Nat) (A : Option Addr) (n c : Nat) (L : List Plw) (r top : Int) (i b2 b3 Lb Db Cb : Nat) (cs : Value) (pre : List (Nat × Bool)) (W : World) : Prop where
  ex : ∃ (S : Option Addr) (sc : Nat), HndI w0 H A n c (L ++ regL i r pre) (r + pre.length) top S sc W ∧ (Value.slice S (L ++ regL i r pre).length sc).ownBlock ≠ some Cb
  g2 : Bk W b2 139 #[.pointer (some ⟨H, 0, none⟩)]
  g3 : Bk W b3 3 #[.int .i64 i]
  gL : Bk W Lb 139 #[.pointer (some ⟨H, 0, none⟩)]
  gD : Bk W Db 39 #[cs]
theorem OvI.own {w0 : World} {H : Nat} {A : Option Addr} {n c : Nat} {L : List Plw} {r top : Int} {i b2 b3 Lb Db Cb : Nat} {cs : Value} {B1 : Nat} (hB : w0.heap.size ≤ B1) :
    OwnFrom B1 (fun pre W => OvI w0 H A n c L r top i b2 b3 Lb Db Cb cs pre W) := fun s X C row h hg hr => by
  have hr' : ∀ r, row = some r → ∃ o : Obj, X.heap[r]? = some o ∧ o.isCells = false := fun r e => (hr r e).2
  obtain ⟨S, sc, e1, e2⟩ := h.ex
  refine ⟨⟨S, sc, ⟨e1.h.kept hg hr', e1.row.kept hg ?_, e1.bel.grown hg e1.bel.size (fun k e => Nat.le_trans hB (hr k e).1), e1.hH⟩, e2⟩, h.g2.kept hg hr', h.g3.kept hg hr', h.gL.kept hg hr', h.gD.kept hg hr'⟩
  cases hob : (Value.slice S (L ++ regL i r s).length sc).ownBlock with
  | none => exact .inl rfl
  | some g =>
    refine .inr fun e => ?_
    obtain ⟨o, ho, hc⟩ := hr' g e.symm
    rcases e1.row.2 with ⟨h1, _⟩ | ⟨g', cap, cur, h1, _, hh, _⟩
    · rw [h1] at hob; simp [Value.ownBlock] at hob
    · rw [h1] at hob
      have : g' = g := by simpa [Value.ownBlock] using hob
      subst this
      rw [hh] at ho
      cases ho
      cases hc
set_option maxRecDepth 100000 in
set_option maxHeartbeats 8000000 in
theorem over_c {d : Nat} (w0 : World) (H : Nat) (A : Option Addr) (c : Nat) (ts : List (Tp d)) (L : List Plw) (r top : Int) (S : Option Addr) (sc : Nat) (w : World) (i : Nat) (t : Tp d) (ht : ts[i]? = some t)
    (hT : TysAt w0 d A ts) (_hc : ts.length ≤ 16) (hI : HndI w0 H A ts.length c L r top S sc w) (hr0 : 0 ≤ r) (hr1 : r ≤ 6) (ht0 : 0 ≤ top) (ht1 : top ≤ 100000000) (hce : clsE d t = 0) (hLn : L.length ≤ 1000000) :
    Calls Try.prog 101 #[.pointer (some ⟨H, 0, none⟩), .int .i64 i] w fun e w' => (∃ v, e = .returned v) ∧ ∃ S' sc', HndI w0 H A ts.length c (L ++ ovL i r top (clsL d t) (szS d t) (agS d t)) (ovR r (clsL d t)) (ovT r top (clsL d t) (szS d t) (agS d t)) S' sc' w' := by
  have hlt : i < ts.length := (List.getElem?_eq_some_iff.1 ht).1
  obtain ⟨b, o, v0, v1, v2, v3, v4, v5, v6, rfl, hty, p0, p1, p2, p3, p4, p5, p6⟩ := hT.at_ ht
  obtain ⟨n0, A1, A2, n1, n2, c1, c2, pk, al, hcs⟩ := hty.form
  simp only [List.cons.injEq, and_true] at hcs
  obtain ⟨rfl, rfl, rfl, rfl, rfl, rfl, rfl⟩ := hcs
  obtain ⟨sh, hsh⟩ : ∃ x, tsh d t = x := ⟨_, rfl⟩
  obtain ⟨tk0, hk⟩ : ∃ x, tk d t = x := ⟨_, rfl⟩
  rw [hsh, hk] at hty
  rw [hsh] at p0
  rw [hk] at p1
  clear hsh hk
  replace p0 := bel_cell hI.bel p0
  replace p1 := bel_cell hI.bel p1
  replace p2 := bel_cell hI.bel p2
  replace p3 := bel_cell hI.bel p3
  replace p4 := bel_cell hI.bel p4
  replace p5 := bel_cell hI.bel p5
  replace p6 := bel_cell hI.bel p6
  have hbl := World.block_lt_of_cell? _ _ p0
  simp only at hbl
  have hHl := hI.h.lt
  have z1 : (0 : Int) ≤ (i : Int) := Int.natCast_nonneg _
  have z2 : (i : Int) < (ts.length : Int) := by omega
  have h3 := hI.h.at_ (i := 3) rfl
  have HII := Lib.hid hI
  have HTY := Lib.hid hty
  clear hI hty
  refine (callsIn_wide (n := 9)).1 (callsIn_of_wp_marks Try.func101 rfl trivial ?_ rfl)
  simp only [Try.ntmps101, List.size_toArray, List.length_cons, List.length_nil, Nat.reduceAdd, Nat.reduceSub, Array.replicate_succ, Array.replicate_zero, List.push_toArray, List.append_toArray, List.nil_append, List.cons_append]
  refine wpIn_wide.2 ?_
  go_wp2_with fail
  generalize hW1 : World.alloc w _ = W1
  generalize hW2 : World.alloc W1 _ = W2
  have hb1 : Below w.heap.size w W1 := by rw [← hW1]; exact bel_alloc (Below.refl _ _) _
  have hb2 : Below W1.heap.size W1 W2 := by rw [← hW2]; exact bel_alloc (Below.refl _ _) _
  have hs1 : W1.heap.size = w.heap.size + 1 := by rw [← hW1]; simp
  have hs2 : W2.heap.size = w.heap.size + 1 + 1 := by rw [← hW2]; simp [hs1]
  have g2 : Bk W2 w.heap.size 139 #[.pointer (some ⟨H, 0, none⟩)] := by rw [← hW2, ← hW1]; exact (Bk.new w 139 _).alloc _
  have g3 : Bk W2 (w.heap.size + 1) 3 #[.int .i64 i] := by rw [← hW2, ← hW1]; exact Bk.new1 w _ 3 _
  clear hW1 hW2
  have hb := bel_then hb1 hb2
  have HB := Lib.hid hb
  replace h3 := bel_cell hb h3
  replace p0 := bel_cell hb p0
  replace p1 := bel_cell hb p1
  replace p2 := bel_cell hb p2
  replace p3 := bel_cell hb p3
  replace p4 := bel_cell hb p4
  replace p5 := bel_cell hb p5
  replace p6 := bel_cell hb p6
  have q2 := g2.at_ (i := 0) rfl
  have q3 := g3.at_ (i := 0) rfl
  clear hb hb1 hb2
  go_region_held3 (fun w' => w'.cell? ⟨w.heap.size, 0, none⟩ = some (.pointer (some ⟨H, 0, none⟩)) ∧ w'.cell? ⟨w.heap.size + 1, 0, none⟩ = some (.int .i64 i) ∧ w'.cell? ⟨H, 3, none⟩ = some (.slice (some ⟨b, o, none⟩) ts.length c) ∧ w'.cell? ⟨b, o + i * 7, none⟩ = some (.int .i64 sh) ∧ w'.cell? ⟨b, o + i * 7 + 1, none⟩ = some (.int .i64 tk0) ∧ w'.cell? ⟨b, o + i * 7 + 2, none⟩ = some (.int .i64 n0) ∧ w'.cell? ⟨b, o + i * 7 + 3, none⟩ = some (.slice A1 n1 c1) ∧ w'.cell? ⟨b, o + i * 7 + 4, none⟩ = some (.slice A2 n2 c2) ∧ w'.cell? ⟨b, o + i * 7 + 5, none⟩ = some (.bool pk) ∧ w'.cell? ⟨b, o + i * 7 + 6, none⟩ = some (.int .i64 al)) (first | go_keep) (fail)
  clear p0 p1 p2 p3 p4 p5 p6
  generalize hW3 : World.drew _ = W3
  have hb3 : Below W2.heap.size W2 W3 := by rw [← hW3]; exact bel_drew (bel_alloc (Below.refl _ _) _)
  have g4 : Bk W3 (w.heap.size + 1 + 1) 38 #[.int .i64 sh, .int .i64 tk0, .int .i64 n0, .slice A1 n1 c1, .slice A2 n2 c2, .bool pk, .int .i64 al] := by
    rw [← hW3, ← hs2]; exact Bk.new W2 38 _
  clear hW3
  replace g2 := g2.below hb3 g2.lt
  replace g3 := g3.below hb3 g3.lt
  replace h3 := bel_cell hb3 h3
  have hs3 := hb3.size
  have HB3 := Lib.hid (bel_then HB.out hb3)
  have t0 := g4.at_ (i := 0) rfl; have t1 := g4.at_ (i := 1) rfl; have t2 := g4.at_ (i := 2) rfl; have t3 := g4.at_ (i := 3) rfl; have t4 := g4.at_ (i := 4) rfl; have t5 := g4.at_ (i := 5) rfl; have t6 := g4.at_ (i := 6) rfl
  have hw3 := HII.out.bel.trans (HB3.out.mono HII.out.bel.size)
  have HX := Lib.hid (classes_f (HTY.out.below hw3))
  clear hb3 q2 q3 h3 hw3
  go_wp2_with fail
  refine HX.out.mono ?_
  rintro e W4 ⟨C, cn, cc, rfl, hC, hb4, hfr⟩
  replace g2 := g2.below hb4 g2.lt
  replace g3 := g3.below hb4 g3.lt
  replace g4 := g4.below hb4 g4.lt
  have HB4 := Lib.hid (bel_then HB3.out hb4)
  have hs4 := hb4.size
  clear hb4 t0 t1 t2 t3 t4 t5 t6
  have q2 := g2.at_ (i := 0) rfl
  obtain ⟨l, hl⟩ : ∃ l, clsL d t = l := ⟨_, rfl⟩
  obtain ⟨hl1, hl2⟩ : 1 ≤ l.length ∧ l.length ≤ 2 := by rw [← hl]; exact cls_len hce
  rw [hl] at hC
  rw [hce]
  obtain rfl : cn = l.length := hC.1
  obtain ⟨f0, hf0⟩ : ∃ f0, l[0]? = some f0 := ⟨_, List.getElem?_eq_getElem (by omega)⟩
  obtain ⟨Cb, Co, rfl, x0⟩ := hC.2 0 f0 hf0
  have hCb := hfr _ rfl
  simp only at hCb
  have hCC : ∀ i v, l[i]? = some v → W4.cell? ⟨Cb, Co + i, none⟩ = some (.int .i64 v) := fun i v hv => by
    obtain ⟨b', o', he, h⟩ := hC.2 i v hv
    cases he
    exact h
  have hh4 := (HII.out.h.below HB4.out HII.out.h.lt)
  have h1 := hh4.at_ (i := 1) rfl
  have HF := Lib.hid (fits_c H r hr0 hr1 Cb Co cc l f0 hf0 (by omega) W4 h1 hCC)
  have HCC := Lib.hid hCC
  have HF0 := Lib.hid hf0
  have HL := Lib.hid hl
  clear hC hfr hCC x0 hf0 hl h1
  go_wp2_with fail
  refine HF.out.mono ?_
  rintro e W5 ⟨rfl, hb5⟩
  replace g2 := g2.below hb5 g2.lt
  replace g3 := g3.below hb5 g3.lt
  replace g4 := g4.below hb5 g4.lt
  replace hh4 := hh4.below hb5 hh4.lt
  have HB5 := Lib.hid (bel_then HB4.out hb5)
  have HCC5 := Lib.hid (fun i v hv => bel_cell hb5 (HCC.out i v hv))
  have hs5 : W3.heap.size ≤ W5.heap.size := Nat.le_trans (by omega) hb5.size
  clear hb5 q2
  have q2 := g2.at_ (i := 0) rfl
  have q3 := g3.at_ (i := 0) rfl
  cases hft : fitsS r l with
  | true =>
    go_wp2_with fail
    refine (eights_c _ _ _ _ _).mono ?_
    rintro e w1 ⟨rfl, rfl⟩
    go_wp2_with fail
    generalize hX1 : World.alloc W5 _ = X1
    generalize hX2 : World.alloc X1 _ = X
    have hx1 : X1.heap.size = W5.heap.size + 1 := by rw [← hX1]; simp
    have hx2 : X.heap.size = W5.heap.size + 1 + 1 := by rw [← hX2]; simp [hx1]
    have gL : Bk X W5.heap.size 139 #[.pointer (some ⟨H, 0, none⟩)] := by rw [← hX2, ← hX1]; exact (Bk.new W5 139 _).alloc _
    have gD : Bk X (W5.heap.size + 1) 39 #[.slice (some ⟨Cb, Co, none⟩) l.length cc] := by rw [← hX2, ← hX1]; exact Bk.new1 W5 _ 39 _
    have hbX : Below W5.heap.size W5 X := by rw [← hX2, ← hX1]; exact bel_alloc (bel_alloc (Below.refl _ _) _) _
    clear hX1 hX2
    replace g2 := g2.below hbX g2.lt
    replace g3 := g3.below hbX g3.lt
    replace hh4 := hh4.below hbX hh4.lt
    have HBX := Lib.hid (bel_then HB5.out hbX)
    have hcb5 : Cb < W5.heap.size := World.block_lt_of_cell? _ _ (HCC5.out 0 f0 HF0.out)
    refine range_box (n := 9) (α := Nat × Bool) (fun T x _ => ((T.setIfInBounds 30 (.int .i64 (x.1 : Int))).setIfInBounds 31 (.bool x.2)).setIfInBounds 7 (.int .i64 (x.1 : Int))) (fun _ _ _ => True)
      (by omega) rfl (enters_of Try.func127 (by kernel_rfl) rfl)
      (eights_stops 8 (by omega) H r hr0 (by omega) Cb Co cc l (by omega) W5.heap.size (W5.heap.size + 1) _ ?hL ?hD ?hH ?hC) Kp3_t ?hKb ?hps
      (fun pre W => OvI w0 H (some ⟨b, o, none⟩) ts.length c L r top i w.heap.size (w.heap.size + 1) W5.heap.size (W5.heap.size + 1) Cb (.slice (some ⟨Cb, Co, none⟩) l.length cc) pre W)
      (fun _ _ _ => False)
      ?hI ?hIx ?h0 (fun _ _ _ _ _ _ _ _ _ => trivial) ?assign ?body ?done ?stop
    case hL => exact gL.at_ rfl
    case hD => exact gD.at_ rfl
    case hH => exact hh4.at_ (i := 1) rfl
    case hC => exact fun i v hv => bel_cell hbX (HCC5.out i v hv)
    case hKb => exact fun W l o o' hl _ _ _ => ⟨World.putObj_heap_other (by omega), World.putObj_heap_other (by omega), World.putObj_heap_other (by omega)⟩
    case hps => exact fun _ => rfl
    case hI => exact OvI.own (by have := HII.out.bel.size; have := HBX.out.size; omega)
    case hIx => exact fun c' s X C row h hg hr => h
    case h0 =>
      have e0 : L ++ regL i r [] = L := by simp [regL]
      refine ⟨⟨S, sc, ?_, ?_⟩, g2, g3, gL, gD⟩
      · rw [e0]
        have h := HII.out.below HBX.out
        simpa using h
      · rw [e0]
        intro e
        have := (own87 HII.out.row Cb e).2
        omega
    case assign =>
      intro rr pre x W K hi hK
      simp only [evEnc, List.zip_toArray, List.zip_cons_cons, List.zip_nil_right, List.foldl_toArray', List.size_toArray, List.length_cons, List.length_nil, Nat.reduceAdd, List.foldl_cons, List.foldl_nil, List.setIfInBounds_toArray, List.set_cons_succ, List.set_cons_zero] at hK ⊢
      gi_wp2
      exact hK 0 _ (KeepsFrom.refl _ _) ⟨rfl, rfl, rfl⟩ hi trivial
    case body =>
      intro rr pre x Bx W hr hi _ hlen
      simp only [List.setIfInBounds_toArray, List.set_cons_succ, List.set_cons_zero]
      obtain ⟨k, fb⟩ := x
      obtain ⟨⟨S', sc', hh, hne⟩, k2, k3, kL, kD⟩ := hi
      obtain ⟨P', hP'⟩ : ∃ P', L ++ regL i r pre = P' := ⟨_, rfl⟩
      rw [hP'] at hh hne
      have HP' := Lib.hid hP'
      have hPl : P'.length ≤ 1000002 := by rw [← hP', List.length_append]; simp [regL]; omega
      clear hP'
      have u2 := k2.at_ (i := 0) rfl
      have u3 := k3.at_ (i := 0) rfl
      have hq0 := hh.h.at_ (i := 0) rfl
      have hq1 := hh.h.at_ (i := 1) rfl
      obtain ⟨r', hr'⟩ : ∃ r', r + (pre.length : Int) = r' := ⟨_, rfl⟩
      rw [hr'] at hh hq1
      have HR' := Lib.hid hr'
      have hr1' : 0 ≤ r' := by omega
      have hr2' : r' ≤ 100 := by omega
      clear hr'
      have HH := Lib.hid hh
      clear hh
      have hXW : X.heap.size ≤ W.heap.size := by have := kD.lt; omega
      have hCbH : Cb ≠ H := by omega
      gi_wp2_with fail
      refine regionIn_held (S := fun w' => w'.cell? ⟨w.heap.size, 0, none⟩ = some (.pointer (some ⟨H, 0, none⟩)) ∧ w'.cell? ⟨w.heap.size + 1, 0, none⟩ = some (.int .i64 i) ∧ w'.cell? ⟨H, 1, none⟩ = some (.int .i64 r')) (by kernel_rfl) (by kernel_rfl) (fun ⟨_, _, h⟩ => h) ⟨u2, u3, hq1⟩ (fun hHeld => ?_)
      refine wpAnyH_take (i := 0) (oi := ⟨some 32, Op.load 139 (Operand.tmp 2), 139, "class.go:86", #[], none⟩) (v := .pointer (some ⟨H, 0, none⟩)) rfl (by kernel_rfl) (by kernel_rfl) (by kernel_rfl) (fun _ _ _ h => h) (Or.inl ⟨by rfl, fun w' hw' => ?_⟩) (by assumption) ?_
      · obtain ⟨y2, y3, y1⟩ := hw'
        go_simp
      simp only [Act.put, List.setIfInBounds_toArray, List.set_cons_zero, List.set_cons_succ]
      refine wpAnyH_take (i := 1) (oi := ⟨some 33, Op.load 139 (Operand.tmp 2), 139, "class.go:86", #[], none⟩) (v := .pointer (some ⟨H, 0, none⟩)) rfl (by kernel_rfl) (by kernel_rfl) (by kernel_rfl) (fun _ _ _ h => h) (Or.inl ⟨by rfl, fun w' hw' => ?_⟩) (by assumption) ?_
      · obtain ⟨y2, y3, y1⟩ := hw'
        go_simp
      simp only [Act.put, List.setIfInBounds_toArray, List.set_cons_zero, List.set_cons_succ]
      refine wpAnyH_take (i := 2) (oi := ⟨some 34, Op.nilCheck (Operand.tmp 33), 0, "class.go:86", #[⟨1, Ground.data⟩], none⟩) (v := .pointer (some ⟨H, 0, none⟩)) rfl (by kernel_rfl) (by kernel_rfl) (by kernel_rfl) (fun _ _ _ h => h) (Or.inl ⟨by rfl, fun w' hw' => ?_⟩) (by assumption) ?_
      · obtain ⟨y2, y3, y1⟩ := hw'
        go_simp
      simp only [Act.put, List.setIfInBounds_toArray, List.set_cons_zero, List.set_cons_succ]
      refine wpAnyH_take (i := 3) (oi := ⟨some 35, Op.fieldAddr 141 (Operand.tmp 34) 0, 0, "class.go:86", #[⟨2, Ground.data⟩], none⟩) (v := .pointer (some ⟨H, 0, none⟩)) rfl (by kernel_rfl) (by kernel_rfl) (by kernel_rfl) (fun _ _ _ h => h) (Or.inl ⟨by rfl, fun w' hw' => ?_⟩) (by assumption) ?_
      · obtain ⟨y2, y3, y1⟩ := hw'
        go_simp
      simp only [Act.put, List.setIfInBounds_toArray, List.set_cons_zero, List.set_cons_succ]
      refine wpAnyH_take (i := 5) (oi := ⟨some 37, Op.load 3 (Operand.tmp 3), 3, "class.go:86", #[], none⟩) (v := .int .i64 i) rfl (by kernel_rfl) (by kernel_rfl) (by kernel_rfl) (fun _ _ _ h => h) (Or.inl ⟨by rfl, fun w' hw' => ?_⟩) (by assumption) ?_
      · obtain ⟨y2, y3, y1⟩ := hw'
        go_simp
      simp only [Act.put, List.setIfInBounds_toArray, List.set_cons_zero, List.set_cons_succ]
      refine wpAnyH_take (i := 6) (oi := ⟨some 38, Op.move (Operand.tmp 7), 3, "class.go:86", #[], none⟩) (v := .int .i64 k) rfl (by kernel_rfl) (by kernel_rfl) (by kernel_rfl) (fun _ _ _ h => h) (Or.inl ⟨by rfl, fun w' hw' => ?_⟩) (by assumption) ?_
      · obtain ⟨y2, y3, y1⟩ := hw'
        go_simp
      simp only [Act.put, List.setIfInBounds_toArray, List.set_cons_zero, List.set_cons_succ]
      refine wpAnyH_take (i := 7) (oi := ⟨some 39, Op.load 139 (Operand.tmp 2), 139, "class.go:86", #[], none⟩) (v := .pointer (some ⟨H, 0, none⟩)) rfl (by kernel_rfl) (by kernel_rfl) (by kernel_rfl) (fun _ _ _ h => h) (Or.inl ⟨by rfl, fun w' hw' => ?_⟩) (by assumption) ?_
      · obtain ⟨y2, y3, y1⟩ := hw'
        go_simp
      simp only [Act.put, List.setIfInBounds_toArray, List.set_cons_zero, List.set_cons_succ]
      refine wpAnyH_take (i := 8) (oi := ⟨some 40, Op.nilCheck (Operand.tmp 39), 0, "class.go:86", #[⟨7, Ground.data⟩], none⟩) (v := .pointer (some ⟨H, 0, none⟩)) rfl (by kernel_rfl) (by kernel_rfl) (by kernel_rfl) (fun _ _ _ h => h) (Or.inl ⟨by rfl, fun w' hw' => ?_⟩) (by assumption) ?_
      · obtain ⟨y2, y3, y1⟩ := hw'
        go_simp
      simp only [Act.put, List.setIfInBounds_toArray, List.set_cons_zero, List.set_cons_succ]
      refine wpAnyH_take (i := 9) (oi := ⟨some 41, Op.fieldAddr 141 (Operand.tmp 40) 1, 0, "class.go:86", #[⟨8, Ground.data⟩], none⟩) (v := .pointer (some ⟨H, 1, none⟩)) rfl (by kernel_rfl) (by kernel_rfl) (by kernel_rfl) (fun _ _ _ h => h) (Or.inl ⟨by rfl, fun w' hw' => ?_⟩) (by assumption) ?_
      · obtain ⟨y2, y3, y1⟩ := hw'
        go_simp
      simp only [Act.put, List.setIfInBounds_toArray, List.set_cons_zero, List.set_cons_succ]
      refine wpAnyH_take (i := 10) (oi := ⟨some 42, Op.load 3 (Operand.tmp 41), 3, "class.go:86", #[⟨9, Ground.data⟩], none⟩) (v := .int .i64 r') rfl (by kernel_rfl) (by kernel_rfl) (by kernel_rfl) (fun _ _ _ h => h) (Or.inl ⟨by rfl, fun w' hw' => ?_⟩) (by assumption) ?_
      · obtain ⟨y2, y3, y1⟩ := hw'
        go_simp
      simp only [Act.put, List.setIfInBounds_toArray, List.set_cons_zero, List.set_cons_succ]
      refine wpAnyH_take (i := 11) (oi := ⟨some 43, Op.build 87 #[(0, Operand.tmp 37), (1, Operand.tmp 38), (2, Operand.tmp 42)], 87, "class.go:86", #[⟨5, Ground.data⟩, ⟨6, Ground.data⟩, ⟨10, Ground.data⟩], none⟩) (v := .agg #[.int .i64 i, .int .i64 k, .int .i64 r', .int .i64 0]) rfl (by kernel_rfl) (by kernel_rfl) (by kernel_rfl) (fun _ _ _ h => h) (Or.inl ⟨by rfl, fun w' hw' => ?_⟩) (by assumption) ?_
      · obtain ⟨y2, y3, y1⟩ := hw'
        go_simp
      simp only [Act.put, List.setIfInBounds_toArray, List.set_cons_zero, List.set_cons_succ]
      have hbd : Below W.heap.size W W.drew := bel_drew (Below.refl _ _)
      have hrowd := HH.out.row.drew
      have v0 : W.drew.cell? ⟨H, 0, none⟩ = some (.slice S' P'.length sc') := hq0
      generalize W.drew = Wd at hHeld hbd hrowd v0 ⊢
      have hHl' := World.block_lt_of_cell? _ _ v0
      have hwd : w0.heap.size ≤ Wd.heap.size := Nat.le_trans HH.out.bel.size hbd.size
      have hbo := bel_alloc (Below.refl Wd.heap.size Wd) (.cells #[.int .i64 i, .int .i64 k, .int .i64 r', .int .i64 0] 87)
      have v0' := bel_cell hbo v0
      have hHeld2 : (Wd.alloc (.cells #[.int .i64 i, .int .i64 k, .int .i64 r', .int .i64 0] 87)).cell? ⟨w.heap.size, 0, none⟩ = some (.pointer (some ⟨H, 0, none⟩)) ∧ (Wd.alloc (.cells #[.int .i64 i, .int .i64 k, .int .i64 r', .int .i64 0] 87)).cell? ⟨w.heap.size + 1, 0, none⟩ = some (.int .i64 i) ∧ (Wd.alloc (.cells #[.int .i64 i, .int .i64 k, .int .i64 r', .int .i64 0] 87)).cell? ⟨H, 1, none⟩ = some (.int .i64 r') := ⟨bel_cell hbo hHeld.1, bel_cell hbo hHeld.2.1, bel_cell hbo hHeld.2.2⟩
      obtain ⟨i0, hi0, hz0', hz1', hz2'⟩ := info_parts info87
      have hCbl : Cb < Wd.heap.size + 1 := by have := hbd.size; omega
      have HBD := Lib.hid hbd
      have HRD := Lib.hid hrowd
      clear hbd hrowd hbo
      refine wpAnyH_ready (rs := [4, 12]) (by kernel_rfl) (by simp) ?_
      refine AllReadyH.cons (o := ⟨some 36, Op.load 81 (Operand.tmp 35), 81, "class.go:86", #[⟨3, Ground.data⟩], none⟩) rfl (fun K hK => ?_) ?_
      · go_simp
        refine hK.out _ _ hHeld (fun _ => ?_)
        clear hK K
        refine wpAnyH_ready (rs := [12]) (by kernel_rfl) (by simp) ?_
        refine AllReadyH.cons (o := ⟨some 44, Op.buildSlice 81 1 #[(0, Operand.tmp 43)], 81, "class.go:86", #[⟨11, Ground.data⟩], none⟩) rfl (fun K hK => ?_) AllReadyH.nil
        go_simp
        refine hK.out _ _ hHeld2 (fun _ => ?_)
        clear hK K
        refine wpAnyH_ready (rs := [13]) (by kernel_rfl) (by simp) ?_
        refine AllReadyH.cons (o := ⟨some 45, Op.call { callee := Callee.builtin Builtin.append, args := #[Operand.tmp 36, Operand.tmp 44], argTypes := #[81, 81] }, 81, "class.go:86", #[⟨4, Ground.data⟩, ⟨12, Ground.data⟩], none⟩) rfl (fun K hK => ?_) AllReadyH.nil
        refine step_append_lies _ rfl (.tmp 36) (.tmp 44) 81 rfl w0.heap.size 87 i0 _ 4 32 Try.underlying81 hi0 hz0' hz1' hz2' rfl (by omega) (.slice S' P'.length sc') P'.length (plwC P') (by rfl) (HRD.out.alloc _) ⟨Wd.heap.size, 0, none⟩ 1 1 [.int .i64 i, .int .i64 k, .int .i64 r', .int .i64 0] (by rfl) (by rfl) (World.news_of_block (cs := #[.int .i64 i, .int .i64 k, .int .i64 r', .int .i64 0]) (t := 87) (fr := (0, 0)) (heap_alloc_new Wd _)) (by simp [Value.oneCell']) (by omega) (by unfold maxLen; omega) (by omega) (by simp; omega) (Wd.heap.size + 1) (by simp) ?_
        intro g5 c5 w7 hown7 hgrow hat hlt7
        have m2 := ((k2.below HBD.out k2.lt).alloc _).grown hgrow (k2.ne_row87 (by decide) HH.out.row)
        have m3 := ((k3.below HBD.out k3.lt).alloc _).grown hgrow (k3.ne_row87 (by decide) HH.out.row)
        have mH := ((HH.out.h.below HBD.out HH.out.h.lt).alloc _).grown hgrow (HH.out.h.ne_row87 (by decide) HH.out.row)
        have e2 := m2.at_ (i := 0) rfl
        have e3 := m3.at_ (i := 0) rfl
        have e0 := mH.at_ (i := 0) rfl
        have e1 := mH.at_ (i := 1) rfl
        have ef := mH.frozen 0
        have ef1 := mH.frozen 1
        simp only [Act.put, List.setIfInBounds_toArray, List.set_cons_zero, List.set_cons_succ]
        refine hK.out _ _ ⟨e2, e3, e1⟩ (fun hHeld3 => ?_)
        clear hK K
        refine wpAnyH_take (i := 14) (oi := ⟨some 46, Op.nilCheck (Operand.tmp 32), 0, "class.go:86", #[⟨0, Ground.data⟩, ⟨0, Ground.phase⟩, ⟨1, Ground.phase⟩, ⟨2, Ground.phase⟩, ⟨3, Ground.phase⟩, ⟨4, Ground.phase⟩, ⟨5, Ground.phase⟩, ⟨6, Ground.phase⟩, ⟨7, Ground.phase⟩, ⟨8, Ground.phase⟩, ⟨9, Ground.phase⟩, ⟨10, Ground.phase⟩, ⟨11, Ground.phase⟩, ⟨12, Ground.phase⟩, ⟨13, Ground.phase⟩], none⟩) (v := .pointer (some ⟨H, 0, none⟩)) rfl (by kernel_rfl) (by kernel_rfl) (by kernel_rfl) (fun _ _ _ h => h) (Or.inl ⟨by rfl, fun w' hw' => ?_⟩) (by assumption) ?_
        · obtain ⟨y2, y3, y1⟩ := hw'
          go_simp
        simp only [Act.put, List.setIfInBounds_toArray, List.set_cons_zero, List.set_cons_succ]
        refine wpAnyH_take (i := 15) (oi := ⟨some 47, Op.fieldAddr 141 (Operand.tmp 46) 0, 0, "class.go:86", #[⟨14, Ground.data⟩, ⟨0, Ground.phase⟩, ⟨1, Ground.phase⟩, ⟨2, Ground.phase⟩, ⟨3, Ground.phase⟩, ⟨4, Ground.phase⟩, ⟨5, Ground.phase⟩, ⟨6, Ground.phase⟩, ⟨7, Ground.phase⟩, ⟨8, Ground.phase⟩, ⟨9, Ground.phase⟩, ⟨10, Ground.phase⟩, ⟨11, Ground.phase⟩, ⟨12, Ground.phase⟩, ⟨13, Ground.phase⟩], none⟩) (v := .pointer (some ⟨H, 0, none⟩)) rfl (by kernel_rfl) (by kernel_rfl) (by kernel_rfl) (fun _ _ _ h => h) (Or.inl ⟨by rfl, fun w' hw' => ?_⟩) (by assumption) ?_
        · obtain ⟨y2, y3, y1⟩ := hw'
          go_simp
        simp only [Act.put, List.setIfInBounds_toArray, List.set_cons_zero, List.set_cons_succ]
        refine wpAnyH_ready (rs := [16]) (by kernel_rfl) (by simp) ?_
        refine AllReadyH.cons (o := ⟨none, Op.store 81 (Operand.tmp 47) (Operand.tmp 45), 0, "class.go:86", #[⟨15, Ground.data⟩, ⟨13, Ground.data⟩, ⟨13, Ground.chain⟩, ⟨0, Ground.phase⟩, ⟨1, Ground.phase⟩, ⟨2, Ground.phase⟩, ⟨3, Ground.phase⟩, ⟨4, Ground.phase⟩, ⟨5, Ground.phase⟩, ⟨6, Ground.phase⟩, ⟨7, Ground.phase⟩, ⟨8, Ground.phase⟩, ⟨9, Ground.phase⟩, ⟨10, Ground.phase⟩, ⟨11, Ground.phase⟩, ⟨12, Ground.phase⟩, ⟨13, Ground.phase⟩], none⟩) rfl (fun K hK => ?_) AllReadyH.nil
        go_simp
        have n2 := m2.far (p := ⟨H, 0, none⟩) (show w.heap.size ≠ H by omega) (.slice (some ⟨g5, 0, none⟩) (P'.length + 1) c5)
        have n3 := m3.far (p := ⟨H, 0, none⟩) (show w.heap.size + 1 ≠ H by omega) (.slice (some ⟨g5, 0, none⟩) (P'.length + 1) c5)
        have hN := hnd_step (x := ⟨i, k, r', 0⟩) HH.out HBD.out hown7 hgrow
        have HKF := Lib.hid (keeps_set (keeps_set (keeps_app87 (keeps_alloc (keeps_below (KeepsFrom.refl (W5.heap.size + 1 + 1) W) HBD.out) _) (HRD.out.alloc _) hgrow) ⟨H, 0, none⟩ (.slice (some ⟨g5, 0, none⟩) (P'.length + 1) c5)) ⟨H, 1, none⟩ (.int .i64 (r' + 1)))
        have HM2 := Lib.hid (bk_over (a := 0) (b := 1) (u := .slice (some ⟨g5, 0, none⟩) (P'.length + 1) c5) (v := .int .i64 (r' + 1)) k2 (by decide) HH.out.row HBD.out hgrow (show w.heap.size ≠ H by omega))
        have HM3 := Lib.hid (bk_over (a := 0) (b := 1) (u := .slice (some ⟨g5, 0, none⟩) (P'.length + 1) c5) (v := .int .i64 (r' + 1)) k3 (by decide) HH.out.row HBD.out hgrow (show w.heap.size + 1 ≠ H by omega))
        have HML := Lib.hid (bk_over (a := 0) (b := 1) (u := .slice (some ⟨g5, 0, none⟩) (P'.length + 1) c5) (v := .int .i64 (r' + 1)) kL (by decide) HH.out.row HBD.out hgrow (show W5.heap.size ≠ H by omega))
        have HMD := Lib.hid (bk_over (a := 0) (b := 1) (u := .slice (some ⟨g5, 0, none⟩) (P'.length + 1) c5) (v := .int .i64 (r' + 1)) kD (by decide) HH.out.row HBD.out hgrow (show W5.heap.size + 1 ≠ H by omega))
        have HCB := Lib.hid (show ((w7.setCell ⟨H, 0, none⟩ (.slice (some ⟨g5, 0, none⟩) (P'.length + 1) c5)).setCell ⟨H, 1, none⟩ (.int .i64 (r' + 1))).heap[Cb]? = W.heap[Cb]? from cb_over HBD.out hgrow (by omega) hCbH (Ne.symm hne))
        have q8 := n2.at_ (i := 0) rfl
        have qH := hN.h.at_ (i := 1) rfl
        have qf := hN.h.frozen 1
        refine hK.out _ _ ⟨q8, n3.at_ (i := 0) rfl, qH⟩ (fun _ => ?_)
        clear hK K
        refine wpAnyH_done (by kernel_rfl) ?_ _
        have HN := Lib.hid (hN.setR (r' + 1))
        have HNE := Lib.hid (own_next (n := P'.length + 1) (c5 := c5) hat hne hCbl)
        clear hN n2 n3 m2 m3 mH e0 e1 e2 e3 ef ef1 hown7 hgrow hat
        gi_wp2_with fail
        refine ⟨HKF.out, ⟨HML.out.trans kL.symm, HMD.out.trans kD.symm, HCB.out⟩, ⟨⟨some ⟨g5, 0, none⟩, c5, ?_, ?_⟩, HM2.out, HM3.out, HML.out, HMD.out⟩⟩
        · have h := HN.out
          rw [regL_snoc, HR'.out, ← List.append_assoc, HP'.out, List.length_append]
          rw [show r + ((pre.length + [(k, fb)].length : Nat) : Int) = r' + 1 by have := HR'.out; simp; omega]
          exact h
        · exact HNE.out
      refine AllReadyH.cons (o := ⟨some 44, Op.buildSlice 81 1 #[(0, Operand.tmp 43)], 81, "class.go:86", #[⟨11, Ground.data⟩], none⟩) rfl (fun K hK => ?_) AllReadyH.nil
      go_simp
      refine hK.out _ _ hHeld2 (fun _ => ?_)
      clear hK K
      refine wpAnyH_ready (rs := [4]) (by kernel_rfl) (by simp) ?_
      refine AllReadyH.cons (o := ⟨some 36, Op.load 81 (Operand.tmp 35), 81, "class.go:86", #[⟨3, Ground.data⟩], none⟩) rfl (fun K hK => ?_) AllReadyH.nil
      go_simp
      refine hK.out _ _ hHeld2 (fun _ => ?_)
      clear hK K
      refine wpAnyH_ready (rs := [13]) (by kernel_rfl) (by simp) ?_
      refine AllReadyH.cons (o := ⟨some 45, Op.call { callee := Callee.builtin Builtin.append, args := #[Operand.tmp 36, Operand.tmp 44], argTypes := #[81, 81] }, 81, "class.go:86", #[⟨4, Ground.data⟩, ⟨12, Ground.data⟩], none⟩) rfl (fun K hK => ?_) AllReadyH.nil
      refine step_append_lies _ rfl (.tmp 36) (.tmp 44) 81 rfl w0.heap.size 87 i0 _ 4 32 Try.underlying81 hi0 hz0' hz1' hz2' rfl (by omega) (.slice S' P'.length sc') P'.length (plwC P') (by rfl) (HRD.out.alloc _) ⟨Wd.heap.size, 0, none⟩ 1 1 [.int .i64 i, .int .i64 k, .int .i64 r', .int .i64 0] (by rfl) (by rfl) (World.news_of_block (cs := #[.int .i64 i, .int .i64 k, .int .i64 r', .int .i64 0]) (t := 87) (fr := (0, 0)) (heap_alloc_new Wd _)) (by simp [Value.oneCell']) (by omega) (by unfold maxLen; omega) (by omega) (by simp; omega) (Wd.heap.size + 1) (by simp) ?_
      intro g5 c5 w7 hown7 hgrow hat hlt7
      have m2 := ((k2.below HBD.out k2.lt).alloc _).grown hgrow (k2.ne_row87 (by decide) HH.out.row)
      have m3 := ((k3.below HBD.out k3.lt).alloc _).grown hgrow (k3.ne_row87 (by decide) HH.out.row)
      have mH := ((HH.out.h.below HBD.out HH.out.h.lt).alloc _).grown hgrow (HH.out.h.ne_row87 (by decide) HH.out.row)
      have e2 := m2.at_ (i := 0) rfl
      have e3 := m3.at_ (i := 0) rfl
      have e0 := mH.at_ (i := 0) rfl
      have e1 := mH.at_ (i := 1) rfl
      have ef := mH.frozen 0
      have ef1 := mH.frozen 1
      simp only [Act.put, List.setIfInBounds_toArray, List.set_cons_zero, List.set_cons_succ]
      refine hK.out _ _ ⟨e2, e3, e1⟩ (fun hHeld3 => ?_)
      clear hK K
      refine wpAnyH_take (i := 14) (oi := ⟨some 46, Op.nilCheck (Operand.tmp 32), 0, "class.go:86", #[⟨0, Ground.data⟩, ⟨0, Ground.phase⟩, ⟨1, Ground.phase⟩, ⟨2, Ground.phase⟩, ⟨3, Ground.phase⟩, ⟨4, Ground.phase⟩, ⟨5, Ground.phase⟩, ⟨6, Ground.phase⟩, ⟨7, Ground.phase⟩, ⟨8, Ground.phase⟩, ⟨9, Ground.phase⟩, ⟨10, Ground.phase⟩, ⟨11, Ground.phase⟩, ⟨12, Ground.phase⟩, ⟨13, Ground.phase⟩], none⟩) (v := .pointer (some ⟨H, 0, none⟩)) rfl (by kernel_rfl) (by kernel_rfl) (by kernel_rfl) (fun _ _ _ h => h) (Or.inl ⟨by rfl, fun w' hw' => ?_⟩) (by assumption) ?_
      · obtain ⟨y2, y3, y1⟩ := hw'
        go_simp
      simp only [Act.put, List.setIfInBounds_toArray, List.set_cons_zero, List.set_cons_succ]
      refine wpAnyH_take (i := 15) (oi := ⟨some 47, Op.fieldAddr 141 (Operand.tmp 46) 0, 0, "class.go:86", #[⟨14, Ground.data⟩, ⟨0, Ground.phase⟩, ⟨1, Ground.phase⟩, ⟨2, Ground.phase⟩, ⟨3, Ground.phase⟩, ⟨4, Ground.phase⟩, ⟨5, Ground.phase⟩, ⟨6, Ground.phase⟩, ⟨7, Ground.phase⟩, ⟨8, Ground.phase⟩, ⟨9, Ground.phase⟩, ⟨10, Ground.phase⟩, ⟨11, Ground.phase⟩, ⟨12, Ground.phase⟩, ⟨13, Ground.phase⟩], none⟩) (v := .pointer (some ⟨H, 0, none⟩)) rfl (by kernel_rfl) (by kernel_rfl) (by kernel_rfl) (fun _ _ _ h => h) (Or.inl ⟨by rfl, fun w' hw' => ?_⟩) (by assumption) ?_
      · obtain ⟨y2, y3, y1⟩ := hw'
        go_simp
      simp only [Act.put, List.setIfInBounds_toArray, List.set_cons_zero, List.set_cons_succ]
      refine wpAnyH_ready (rs := [16]) (by kernel_rfl) (by simp) ?_
      refine AllReadyH.cons (o := ⟨none, Op.store 81 (Operand.tmp 47) (Operand.tmp 45), 0, "class.go:86", #[⟨15, Ground.data⟩, ⟨13, Ground.data⟩, ⟨13, Ground.chain⟩, ⟨0, Ground.phase⟩, ⟨1, Ground.phase⟩, ⟨2, Ground.phase⟩, ⟨3, Ground.phase⟩, ⟨4, Ground.phase⟩, ⟨5, Ground.phase⟩, ⟨6, Ground.phase⟩, ⟨7, Ground.phase⟩, ⟨8, Ground.phase⟩, ⟨9, Ground.phase⟩, ⟨10, Ground.phase⟩, ⟨11, Ground.phase⟩, ⟨12, Ground.phase⟩, ⟨13, Ground.phase⟩], none⟩) rfl (fun K hK => ?_) AllReadyH.nil
      go_simp
      have n2 := m2.far (p := ⟨H, 0, none⟩) (show w.heap.size ≠ H by omega) (.slice (some ⟨g5, 0, none⟩) (P'.length + 1) c5)
      have n3 := m3.far (p := ⟨H, 0, none⟩) (show w.heap.size + 1 ≠ H by omega) (.slice (some ⟨g5, 0, none⟩) (P'.length + 1) c5)
      have hN := hnd_step (x := ⟨i, k, r', 0⟩) HH.out HBD.out hown7 hgrow
      have HKF := Lib.hid (keeps_set (keeps_set (keeps_app87 (keeps_alloc (keeps_below (KeepsFrom.refl (W5.heap.size + 1 + 1) W) HBD.out) _) (HRD.out.alloc _) hgrow) ⟨H, 0, none⟩ (.slice (some ⟨g5, 0, none⟩) (P'.length + 1) c5)) ⟨H, 1, none⟩ (.int .i64 (r' + 1)))
      have HM2 := Lib.hid (bk_over (a := 0) (b := 1) (u := .slice (some ⟨g5, 0, none⟩) (P'.length + 1) c5) (v := .int .i64 (r' + 1)) k2 (by decide) HH.out.row HBD.out hgrow (show w.heap.size ≠ H by omega))
      have HM3 := Lib.hid (bk_over (a := 0) (b := 1) (u := .slice (some ⟨g5, 0, none⟩) (P'.length + 1) c5) (v := .int .i64 (r' + 1)) k3 (by decide) HH.out.row HBD.out hgrow (show w.heap.size + 1 ≠ H by omega))
      have HML := Lib.hid (bk_over (a := 0) (b := 1) (u := .slice (some ⟨g5, 0, none⟩) (P'.length + 1) c5) (v := .int .i64 (r' + 1)) kL (by decide) HH.out.row HBD.out hgrow (show W5.heap.size ≠ H by omega))
      have HMD := Lib.hid (bk_over (a := 0) (b := 1) (u := .slice (some ⟨g5, 0, none⟩) (P'.length + 1) c5) (v := .int .i64 (r' + 1)) kD (by decide) HH.out.row HBD.out hgrow (show W5.heap.size + 1 ≠ H by omega))
      have HCB := Lib.hid (show ((w7.setCell ⟨H, 0, none⟩ (.slice (some ⟨g5, 0, none⟩) (P'.length + 1) c5)).setCell ⟨H, 1, none⟩ (.int .i64 (r' + 1))).heap[Cb]? = W.heap[Cb]? from cb_over HBD.out hgrow (by omega) hCbH (Ne.symm hne))
      have q8 := n2.at_ (i := 0) rfl
      have qH := hN.h.at_ (i := 1) rfl
      have qf := hN.h.frozen 1
      refine hK.out _ _ ⟨q8, n3.at_ (i := 0) rfl, qH⟩ (fun _ => ?_)
      clear hK K
      refine wpAnyH_done (by kernel_rfl) ?_ _
      have HN := Lib.hid (hN.setR (r' + 1))
      have HNE := Lib.hid (own_next (n := P'.length + 1) (c5 := c5) hat hne hCbl)
      clear hN n2 n3 m2 m3 mH e0 e1 e2 e3 ef ef1 hown7 hgrow hat
      gi_wp2_with fail
      refine ⟨HKF.out, ⟨HML.out.trans kL.symm, HMD.out.trans kD.symm, HCB.out⟩, ⟨⟨some ⟨g5, 0, none⟩, c5, ?_, ?_⟩, HM2.out, HM3.out, HML.out, HMD.out⟩⟩
      · have h := HN.out
        rw [regL_snoc, HR'.out, ← List.append_assoc, HP'.out, List.length_append]
        rw [show r + ((pre.length + [(k, fb)].length : Nat) : Int) = r' + 1 by have := HR'.out; simp; omega]
        exact h
      · exact HNE.out
    case done =>
      intro D xs W hD hxs hi hK
      subst hxs
      have HXI := Lib.hid hi
      clear hi
      go_wp2_with fail
      have hD2 : W5.heap.size + 1 + 1 ≤ D := by omega
      have hP : W.grownBy (W.putObj D (.deferred none)) (some D) := ⟨rfl, rfl, rfl, by simp [World.putObj], fun i hi hne => World.putObj_heap_other (fun e => hne (by rw [e]))⟩
      have h := OvI.own (B1 := W5.heap.size + 1 + 1) (by have := HII.out.bel.size; omega) _ W _ (some D) HXI.out hP (fun r e => by cases e; exact ⟨hD2, _, hK, rfl⟩)
      obtain ⟨S', sc', h1, _⟩ := h.ex
      refine ⟨by simp, .inl ⟨_, _, rfl, run_takeDeferred hK, ?_⟩⟩
      refine ⟨_, results_none rfl _ _ _, ⟨⟨_, rfl⟩, S', sc', ?_⟩⟩
      rw [HL.out]
      unfold ovL ovR ovT
      rw [if_pos hft, if_pos hft, if_pos hft]
      exact h1
    case stop => exact fun D c' pre W hD hxs hi hK => hi.elim
  | false =>
    have t0 := g4.at_ (i := 0) rfl; have t1 := g4.at_ (i := 1) rfl; have t2 := g4.at_ (i := 2) rfl; have t3 := g4.at_ (i := 3) rfl; have t4 := g4.at_ (i := 4) rfl; have t5 := g4.at_ (i := 5) rfl; have t6 := g4.at_ (i := 6) rfl
    have hw5 := HII.out.bel.trans (HB5.out.mono HII.out.bel.size)
    have HS := Lib.hid (ssize_c (HTY.out.below hw5))
    obtain ⟨sz, hsz⟩ : ∃ x, szS d t = x := ⟨_, rfl⟩
    obtain ⟨ag, hag⟩ : ∃ x, agS d t = x := ⟨_, rfl⟩
    obtain ⟨er, her⟩ : ∃ x, errS d t = x := ⟨_, rfl⟩
    obtain ⟨_, y1, y2⟩ := Clsz hce
    have y3 := agS_rng hce
    rw [hsz] at y1 y2
    rw [hag] at y3
    rw [hsz, hag, her] at HS
    have HSZ := Lib.hid hsz
    have HAG := Lib.hid hag
    clear hsz hag her hw5
    go_wp2_with fail
    refine HS.out.mono ?_
    rintro e W6 ⟨rfl, hb6⟩
    have HI6 := HII.out.below (bel_then HB5.out hb6)
    replace g2 := g2.below hb6 g2.lt
    replace g3 := g3.below hb6 g3.lt
    clear t0 t1 t2 t3 t4 t5 t6 g4 q2 q3 hh4 hb6
    have q2 := g2.at_ (i := 0) rfl
    have h2 := HI6.h.at_ (i := 2) rfl
    have hf2 := HI6.h.frozen 2
    go_wp2_with fail
    obtain ⟨mxa, hmx⟩ : ∃ x, mx 8 ag = x := ⟨_, rfl⟩
    have ym : 8 ≤ mxa ∧ mxa ≤ 64 := by rw [← hmx, mx_eq]; omega
    have HMX := Lib.hid hmx
    have HU := Lib.hid (fun w' n => cup_q top mxa w' n ht0 (by omega) (by omega) (by omega))
    obtain ⟨tu, htu⟩ : ∃ x, upS top mxa = x := ⟨_, rfl⟩
    rw [htu] at HU
    have HTU := Lib.hid htu
    clear htu
    refine region_tail (C := fun w' => ∃ n, w' = W6.drewN n) 8 (by kernel_rfl) (by kernel_rfl) ⟨1, rfl⟩ ?_
    simp only [List.take_succ_cons, List.take_zero, List.drop_succ_cons, List.drop_zero]
    repeat (go_big_quiet_step ((go_at_call 102; exact HU.out _ _)))
    refine wpQuiet_nil ?_
    rintro _ ⟨nq, rfl⟩
    have hbq := bel_drewN (Below.refl W6.heap.size W6) nq
    have HI7 := HI6.below hbq
    replace g2 := g2.below hbq g2.lt
    replace g3 := g3.below hbq g3.lt
    clear q2 h2 hf2 hbq
    generalize World.drewN W6 nq = W7 at HI7 g2 g3 ⊢
    have q2 := g2.at_ (i := 0) rfl
    have h2 := HI7.h.at_ (i := 2) rfl
    have hf2 := HI7.h.frozen 2
    go_wp2_with fail
    have HI8 := HI7.setT tu
    have k2 := g2.far (p := ⟨H, 2, none⟩) (show w.heap.size ≠ H by omega) (.int .i64 tu)
    have k3 := g3.far (p := ⟨H, 2, none⟩) (show w.heap.size + 1 ≠ H by omega) (.int .i64 tu)
    clear q2 h2 hf2 g2 g3 HI6 HI7
    generalize World.setCell _ _ _ = W8 at HI8 k2 k3 ⊢
    refine (cup_c sz 8 _ (by omega) (by omega) (by omega) (by omega)).mono ?_
    rintro e _ ⟨rfl, rfl⟩
    obtain ⟨us, hus⟩ : ∃ x, upS sz 8 = x := ⟨_, rfl⟩
    have yu : 0 ≤ us ∧ us ≤ 65543 := by
      rw [← hus]
      unfold upS
      omega
    rw [hus]
    have HUS := Lib.hid hus
    clear hus
    go_wp2_with fail
    obtain ⟨m, hm⟩ : ∃ m : Nat, us / 8 = (m : Int) := ⟨(us / 8).toNat, by omega⟩
    have hm2 : m ≤ 8193 := by omega
    have hm3 : ((us / 8).toNat : Nat) = m := by omega
    have HMM := Lib.hid hm3
    have ytu : 0 ≤ tu ∧ tu ≤ 200000000 := by
      rw [← HTU.out]
      have h1 : (top + mxa - 1) / mxa * mxa ≤ top + mxa - 1 := Int.ediv_mul_le _ (by omega)
      have h2 : 0 ≤ (top + mxa - 1) / mxa * mxa := Int.mul_nonneg (Int.ediv_nonneg (by omega) (by omega)) (by omega)
      unfold upS
      omega
    clear hm3 hmx
    go_loopw [74] (fun s74 wr => ∃ j : Nat, s74 = .int .i64 j ∧ j ≤ m ∧ (∃ S' sc', HndI w0 H (some ⟨b, o, none⟩) ts.length c (L ++ (List.range j).map fun (q : Nat) => (⟨i, q, -1, tu + 8 * q⟩ : Plw)) r (tu + 8 * j) S' sc' wr) ∧ Bk wr w.heap.size 139 #[.pointer (some ⟨H, 0, none⟩)] ∧ Bk wr (w.heap.size + 1) 3 #[.int .i64 i]) (fun j _ => m - (intOf j).toNat)
    case atStart => exact ⟨0, rfl, Nat.zero_le _, ⟨S, sc, by simpa using HI8⟩, k2, k3⟩
    case round =>
      obtain ⟨j, rfl, hj, ⟨S', sc', hh⟩, k2, k3⟩ := hrel
      by_cases hlt : j < m
      · obtain ⟨P', hP'⟩ : ∃ P', L ++ (List.range j).map (fun (q : Nat) => (⟨i, q, -1, tu + 8 * q⟩ : Plw)) = P' := ⟨_, rfl⟩
        rw [hP'] at hh
        have hPl : P'.length ≤ 1010000 := by rw [← hP', List.length_append, List.length_map, List.length_range]; omega
        have HP' := Lib.hid hP'
        obtain ⟨tj, htj⟩ : ∃ tj, tu + 8 * (j : Int) = tj := ⟨_, rfl⟩
        rw [htj] at hh
        have ytj : 0 ≤ tj ∧ tj ≤ 300000000 := by omega
        have HTJ := Lib.hid htj
        have u2 := k2.at_ (i := 0) rfl
        have u3 := k3.at_ (i := 0) rfl
        have hq0 := hh.h.at_ (i := 0) rfl
        have hq2 := hh.h.at_ (i := 2) rfl
        have HH := Lib.hid hh
        clear hh hP' htj
        go_wp2_with fail
        refine wp_region_noPanic ?_
        refine wp_region_held_drew (S := fun w' => w'.cell? ⟨w.heap.size, 0, none⟩ = some (.pointer (some ⟨H, 0, none⟩)) ∧ w'.cell? ⟨w.heap.size + 1, 0, none⟩ = some (.int .i64 i) ∧ w'.cell? ⟨H, 2, none⟩ = some (.int .i64 tj)) (by kernel_rfl) ⟨u2, u3, hq2⟩ (fun hHeld => ?_)
        refine wpAnyH_take (i := 0) (oi := ⟨some 77, Op.load 139 (Operand.tmp 2), 139, "class.go:94", #[], none⟩) (v := .pointer (some ⟨H, 0, none⟩)) rfl (by kernel_rfl) (by kernel_rfl) (by kernel_rfl) (fun _ _ _ h => h) (Or.inl ⟨by rfl, fun w' hw' => ?_⟩) (by assumption) ?_
        · obtain ⟨y2, y3, y1⟩ := hw'
          go_simp
        simp only [Act.put, List.setIfInBounds_toArray, List.set_cons_zero, List.set_cons_succ]
        refine wpAnyH_take (i := 1) (oi := ⟨some 78, Op.load 139 (Operand.tmp 2), 139, "class.go:94", #[], none⟩) (v := .pointer (some ⟨H, 0, none⟩)) rfl (by kernel_rfl) (by kernel_rfl) (by kernel_rfl) (fun _ _ _ h => h) (Or.inl ⟨by rfl, fun w' hw' => ?_⟩) (by assumption) ?_
        · obtain ⟨y2, y3, y1⟩ := hw'
          go_simp
        simp only [Act.put, List.setIfInBounds_toArray, List.set_cons_zero, List.set_cons_succ]
        refine wpAnyH_take (i := 2) (oi := ⟨some 79, Op.nilCheck (Operand.tmp 78), 0, "class.go:94", #[⟨1, Ground.data⟩], none⟩) (v := .pointer (some ⟨H, 0, none⟩)) rfl (by kernel_rfl) (by kernel_rfl) (by kernel_rfl) (fun _ _ _ h => h) (Or.inl ⟨by rfl, fun w' hw' => ?_⟩) (by assumption) ?_
        · obtain ⟨y2, y3, y1⟩ := hw'
          go_simp
        simp only [Act.put, List.setIfInBounds_toArray, List.set_cons_zero, List.set_cons_succ]
        refine wpAnyH_take (i := 3) (oi := ⟨some 80, Op.fieldAddr 141 (Operand.tmp 79) 0, 0, "class.go:94", #[⟨2, Ground.data⟩], none⟩) (v := .pointer (some ⟨H, 0, none⟩)) rfl (by kernel_rfl) (by kernel_rfl) (by kernel_rfl) (fun _ _ _ h => h) (Or.inl ⟨by rfl, fun w' hw' => ?_⟩) (by assumption) ?_
        · obtain ⟨y2, y3, y1⟩ := hw'
          go_simp
        simp only [Act.put, List.setIfInBounds_toArray, List.set_cons_zero, List.set_cons_succ]
        refine wpAnyH_take (i := 5) (oi := ⟨some 82, Op.load 3 (Operand.tmp 3), 3, "class.go:94", #[], none⟩) (v := .int .i64 i) rfl (by kernel_rfl) (by kernel_rfl) (by kernel_rfl) (fun _ _ _ h => h) (Or.inl ⟨by rfl, fun w' hw' => ?_⟩) (by assumption) ?_
        · obtain ⟨y2, y3, y1⟩ := hw'
          go_simp
        simp only [Act.put, List.setIfInBounds_toArray, List.set_cons_zero, List.set_cons_succ]
        refine wpAnyH_take (i := 6) (oi := ⟨some 83, Op.move (Operand.tmp 11), 3, "class.go:94", #[], none⟩) (v := .int .i64 j) rfl (by kernel_rfl) (by kernel_rfl) (by kernel_rfl) (fun _ _ _ h => h) (Or.inl ⟨by rfl, fun w' hw' => ?_⟩) (by assumption) ?_
        · obtain ⟨y2, y3, y1⟩ := hw'
          go_simp
        simp only [Act.put, List.setIfInBounds_toArray, List.set_cons_zero, List.set_cons_succ]
        refine wpAnyH_take (i := 7) (oi := ⟨some 84, Op.load 139 (Operand.tmp 2), 139, "class.go:94", #[], none⟩) (v := .pointer (some ⟨H, 0, none⟩)) rfl (by kernel_rfl) (by kernel_rfl) (by kernel_rfl) (fun _ _ _ h => h) (Or.inl ⟨by rfl, fun w' hw' => ?_⟩) (by assumption) ?_
        · obtain ⟨y2, y3, y1⟩ := hw'
          go_simp
        simp only [Act.put, List.setIfInBounds_toArray, List.set_cons_zero, List.set_cons_succ]
        refine wpAnyH_take (i := 8) (oi := ⟨some 85, Op.nilCheck (Operand.tmp 84), 0, "class.go:94", #[⟨7, Ground.data⟩], none⟩) (v := .pointer (some ⟨H, 0, none⟩)) rfl (by kernel_rfl) (by kernel_rfl) (by kernel_rfl) (fun _ _ _ h => h) (Or.inl ⟨by rfl, fun w' hw' => ?_⟩) (by assumption) ?_
        · obtain ⟨y2, y3, y1⟩ := hw'
          go_simp
        simp only [Act.put, List.setIfInBounds_toArray, List.set_cons_zero, List.set_cons_succ]
        refine wpAnyH_take (i := 9) (oi := ⟨some 86, Op.fieldAddr 141 (Operand.tmp 85) 2, 0, "class.go:94", #[⟨8, Ground.data⟩], none⟩) (v := .pointer (some ⟨H, 2, none⟩)) rfl (by kernel_rfl) (by kernel_rfl) (by kernel_rfl) (fun _ _ _ h => h) (Or.inl ⟨by rfl, fun w' hw' => ?_⟩) (by assumption) ?_
        · obtain ⟨y2, y3, y1⟩ := hw'
          go_simp
        simp only [Act.put, List.setIfInBounds_toArray, List.set_cons_zero, List.set_cons_succ]
        refine wpAnyH_take (i := 10) (oi := ⟨some 87, Op.load 2 (Operand.tmp 86), 2, "class.go:94", #[⟨9, Ground.data⟩], none⟩) (v := .int .i64 tj) rfl (by kernel_rfl) (by kernel_rfl) (by kernel_rfl) (fun _ _ _ h => h) (Or.inl ⟨by rfl, fun w' hw' => ?_⟩) (by assumption) ?_
        · obtain ⟨y2, y3, y1⟩ := hw'
          go_simp
        simp only [Act.put, List.setIfInBounds_toArray, List.set_cons_zero, List.set_cons_succ]
        refine wpAnyH_take (i := 11) (oi := ⟨some 88, Op.build 87 #[(0, Operand.tmp 82), (1, Operand.tmp 83), (2, Operand.const (Value.int IntKind.i64 (-1))), (3, Operand.tmp 87)], 87, "class.go:94", #[⟨5, Ground.data⟩, ⟨6, Ground.data⟩, ⟨10, Ground.data⟩], none⟩) (v := .agg #[.int .i64 i, .int .i64 j, .int .i64 (-1), .int .i64 tj]) rfl (by kernel_rfl) (by kernel_rfl) (by kernel_rfl) (fun _ _ _ h => h) (Or.inl ⟨by rfl, fun w' hw' => ?_⟩) (by assumption) ?_
        · obtain ⟨y2, y3, y1⟩ := hw'
          go_simp
        simp only [Act.put, List.setIfInBounds_toArray, List.set_cons_zero, List.set_cons_succ]
        have hbd : Below wr.heap.size wr wr.drew := bel_drew (Below.refl _ _)
        have hrowd := HH.out.row.drew
        have v0 : wr.drew.cell? ⟨H, 0, none⟩ = some (.slice S' P'.length sc') := hq0
        generalize wr.drew = Wd at hHeld hbd hrowd v0 ⊢
        have hHl' := World.block_lt_of_cell? _ _ v0
        have hwd : w0.heap.size ≤ Wd.heap.size := Nat.le_trans HH.out.bel.size hbd.size
        have hbo := bel_alloc (Below.refl Wd.heap.size Wd) (.cells #[.int .i64 i, .int .i64 j, .int .i64 (-1), .int .i64 tj] 87)
        have v0' := bel_cell hbo v0
        have hHeld2 : (Wd.alloc (.cells #[.int .i64 i, .int .i64 j, .int .i64 (-1), .int .i64 tj] 87)).cell? ⟨w.heap.size, 0, none⟩ = some (.pointer (some ⟨H, 0, none⟩)) ∧ (Wd.alloc (.cells #[.int .i64 i, .int .i64 j, .int .i64 (-1), .int .i64 tj] 87)).cell? ⟨w.heap.size + 1, 0, none⟩ = some (.int .i64 i) ∧ (Wd.alloc (.cells #[.int .i64 i, .int .i64 j, .int .i64 (-1), .int .i64 tj] 87)).cell? ⟨H, 2, none⟩ = some (.int .i64 tj) := ⟨bel_cell hbo hHeld.1, bel_cell hbo hHeld.2.1, bel_cell hbo hHeld.2.2⟩
        obtain ⟨i0, hi0, hz0', hz1', hz2'⟩ := info_parts info87
        have HBD := Lib.hid hbd
        have HRD := Lib.hid hrowd
        clear hbd hrowd hbo
        refine wpAnyH_ready (rs := [4, 12]) (by kernel_rfl) (by simp) ?_
        refine AllReadyH.cons (o := ⟨some 81, Op.load 81 (Operand.tmp 80), 81, "class.go:94", #[⟨3, Ground.data⟩], none⟩) rfl (fun K hK => ?_) ?_
        · go_simp
          refine hK.out _ _ hHeld (fun _ => ?_)
          clear hK K
          refine wpAnyH_ready (rs := [12]) (by kernel_rfl) (by simp) ?_
          refine AllReadyH.cons (o := ⟨some 89, Op.buildSlice 81 1 #[(0, Operand.tmp 88)], 81, "class.go:94", #[⟨11, Ground.data⟩], none⟩) rfl (fun K hK => ?_) AllReadyH.nil
          go_simp
          refine hK.out _ _ hHeld2 (fun _ => ?_)
          clear hK K
          refine wpAnyH_ready (rs := [13]) (by kernel_rfl) (by simp) ?_
          refine AllReadyH.cons (o := ⟨some 90, Op.call { callee := Callee.builtin Builtin.append, args := #[Operand.tmp 81, Operand.tmp 89], argTypes := #[81, 81] }, 81, "class.go:94", #[⟨4, Ground.data⟩, ⟨12, Ground.data⟩], none⟩) rfl (fun K hK => ?_) AllReadyH.nil
          refine step_append_lies _ rfl (.tmp 81) (.tmp 89) 81 rfl w0.heap.size 87 i0 _ 4 32 Try.underlying81 hi0 hz0' hz1' hz2' rfl (by omega) (.slice S' P'.length sc') P'.length (plwC P') (by rfl) (HRD.out.alloc _) ⟨Wd.heap.size, 0, none⟩ 1 1 [.int .i64 i, .int .i64 j, .int .i64 (-1), .int .i64 tj] (by rfl) (by rfl) (World.news_of_block (cs := #[.int .i64 i, .int .i64 j, .int .i64 (-1), .int .i64 tj]) (t := 87) (fr := (0, 0)) (heap_alloc_new Wd _)) (by simp [Value.oneCell']) (by omega) (by unfold maxLen; omega) (by omega) (by simp; omega) (Wd.heap.size + 1) (by simp) ?_
          intro g5 c5 w7 hown7 hgrow _ _
          have m2 := ((k2.below HBD.out k2.lt).alloc _).grown hgrow (k2.ne_row87 (by decide) HH.out.row)
          have m3 := ((k3.below HBD.out k3.lt).alloc _).grown hgrow (k3.ne_row87 (by decide) HH.out.row)
          have mH := ((HH.out.h.below HBD.out HH.out.h.lt).alloc _).grown hgrow (HH.out.h.ne_row87 (by decide) HH.out.row)
          have e2 := m2.at_ (i := 0) rfl
          have e3 := m3.at_ (i := 0) rfl
          have e0 := mH.at_ (i := 0) rfl
          have e1 := mH.at_ (i := 2) rfl
          have ef := mH.frozen 0
          simp only [Act.put, List.setIfInBounds_toArray, List.set_cons_zero, List.set_cons_succ]
          refine hK.out _ _ ⟨e2, e3, e1⟩ (fun hHeld3 => ?_)
          clear hK K
          refine wpAnyH_take (i := 14) (oi := ⟨some 91, Op.nilCheck (Operand.tmp 77), 0, "class.go:94", #[⟨0, Ground.data⟩, ⟨0, Ground.phase⟩, ⟨1, Ground.phase⟩, ⟨2, Ground.phase⟩, ⟨3, Ground.phase⟩, ⟨4, Ground.phase⟩, ⟨5, Ground.phase⟩, ⟨6, Ground.phase⟩, ⟨7, Ground.phase⟩, ⟨8, Ground.phase⟩, ⟨9, Ground.phase⟩, ⟨10, Ground.phase⟩, ⟨11, Ground.phase⟩, ⟨12, Ground.phase⟩, ⟨13, Ground.phase⟩], none⟩) (v := .pointer (some ⟨H, 0, none⟩)) rfl (by kernel_rfl) (by kernel_rfl) (by kernel_rfl) (fun _ _ _ h => h) (Or.inl ⟨by rfl, fun w' hw' => ?_⟩) (by assumption) ?_
          · obtain ⟨y2, y3, y1⟩ := hw'
            go_simp
          simp only [Act.put, List.setIfInBounds_toArray, List.set_cons_zero, List.set_cons_succ]
          refine wpAnyH_take (i := 15) (oi := ⟨some 92, Op.fieldAddr 141 (Operand.tmp 91) 0, 0, "class.go:94", #[⟨14, Ground.data⟩, ⟨0, Ground.phase⟩, ⟨1, Ground.phase⟩, ⟨2, Ground.phase⟩, ⟨3, Ground.phase⟩, ⟨4, Ground.phase⟩, ⟨5, Ground.phase⟩, ⟨6, Ground.phase⟩, ⟨7, Ground.phase⟩, ⟨8, Ground.phase⟩, ⟨9, Ground.phase⟩, ⟨10, Ground.phase⟩, ⟨11, Ground.phase⟩, ⟨12, Ground.phase⟩, ⟨13, Ground.phase⟩], none⟩) (v := .pointer (some ⟨H, 0, none⟩)) rfl (by kernel_rfl) (by kernel_rfl) (by kernel_rfl) (fun _ _ _ h => h) (Or.inl ⟨by rfl, fun w' hw' => ?_⟩) (by assumption) ?_
          · obtain ⟨y2, y3, y1⟩ := hw'
            go_simp
          simp only [Act.put, List.setIfInBounds_toArray, List.set_cons_zero, List.set_cons_succ]
          refine wpAnyH_ready (rs := [16]) (by kernel_rfl) (by simp) ?_
          refine AllReadyH.cons (o := ⟨none, Op.store 81 (Operand.tmp 92) (Operand.tmp 90), 0, "class.go:94", #[⟨15, Ground.data⟩, ⟨13, Ground.data⟩, ⟨13, Ground.chain⟩, ⟨0, Ground.phase⟩, ⟨1, Ground.phase⟩, ⟨2, Ground.phase⟩, ⟨3, Ground.phase⟩, ⟨4, Ground.phase⟩, ⟨5, Ground.phase⟩, ⟨6, Ground.phase⟩, ⟨7, Ground.phase⟩, ⟨8, Ground.phase⟩, ⟨9, Ground.phase⟩, ⟨10, Ground.phase⟩, ⟨11, Ground.phase⟩, ⟨12, Ground.phase⟩, ⟨13, Ground.phase⟩], none⟩) rfl (fun K hK => ?_) AllReadyH.nil
          go_simp
          have n2 := m2.far (p := ⟨H, 0, none⟩) (show w.heap.size ≠ H by omega) (.slice (some ⟨g5, 0, none⟩) (P'.length + 1) c5)
          have n3 := m3.far (p := ⟨H, 0, none⟩) (show w.heap.size + 1 ≠ H by omega) (.slice (some ⟨g5, 0, none⟩) (P'.length + 1) c5)
          have hN := hnd_step (x := ⟨i, j, -1, tj⟩) HH.out HBD.out hown7 hgrow
          have q8 := n2.at_ (i := 0) rfl
          have qH := hN.h.at_ (i := 2) rfl
          have qf := hN.h.frozen 2
          refine hK.out _ _ ⟨q8, n3.at_ (i := 0) rfl, qH⟩ (fun _ => ?_)
          clear hK K
          refine wpAnyH_done (by kernel_rfl) ?_ _
          refine NoPanic.normal ?_
          have HN := Lib.hid (hN.setT (tj + 8))
          have HM2 := Lib.hid (n2.far (p := ⟨H, 2, none⟩) (show w.heap.size ≠ H by omega) (.int .i64 (tj + 8)))
          have HM3 := Lib.hid (n3.far (p := ⟨H, 2, none⟩) (show w.heap.size + 1 ≠ H by omega) (.int .i64 (tj + 8)))
          clear hN n2 n3 m2 m3 mH e0 e1 e2 e3 ef hown7 hgrow
          go_wp2_with fail
          go_roundw
          case rel =>
            refine ⟨j + 1, by go_num, by omega, ⟨some ⟨g5, 0, none⟩, c5, ?_⟩, HM2.out, HM3.out⟩
            have h := HN.out
            rw [List.range_succ, List.map_append, ← List.append_assoc, HP'.out]
            simp only [List.map_cons, List.map_nil]
            rw [HTJ.out, show tu + 8 * ((j + 1 : Nat) : Int) = tj + 8 by have := HTJ.out; omega]
            exact h
          case measure => simp [intOf]; omega
        refine AllReadyH.cons (o := ⟨some 89, Op.buildSlice 81 1 #[(0, Operand.tmp 88)], 81, "class.go:94", #[⟨11, Ground.data⟩], none⟩) rfl (fun K hK => ?_) AllReadyH.nil
        go_simp
        refine hK.out _ _ hHeld2 (fun _ => ?_)
        clear hK K
        refine wpAnyH_ready (rs := [4]) (by kernel_rfl) (by simp) ?_
        refine AllReadyH.cons (o := ⟨some 81, Op.load 81 (Operand.tmp 80), 81, "class.go:94", #[⟨3, Ground.data⟩], none⟩) rfl (fun K hK => ?_) AllReadyH.nil
        go_simp
        refine hK.out _ _ hHeld2 (fun _ => ?_)
        clear hK K
        refine wpAnyH_ready (rs := [13]) (by kernel_rfl) (by simp) ?_
        refine AllReadyH.cons (o := ⟨some 90, Op.call { callee := Callee.builtin Builtin.append, args := #[Operand.tmp 81, Operand.tmp 89], argTypes := #[81, 81] }, 81, "class.go:94", #[⟨4, Ground.data⟩, ⟨12, Ground.data⟩], none⟩) rfl (fun K hK => ?_) AllReadyH.nil
        refine step_append_lies _ rfl (.tmp 81) (.tmp 89) 81 rfl w0.heap.size 87 i0 _ 4 32 Try.underlying81 hi0 hz0' hz1' hz2' rfl (by omega) (.slice S' P'.length sc') P'.length (plwC P') (by rfl) (HRD.out.alloc _) ⟨Wd.heap.size, 0, none⟩ 1 1 [.int .i64 i, .int .i64 j, .int .i64 (-1), .int .i64 tj] (by rfl) (by rfl) (World.news_of_block (cs := #[.int .i64 i, .int .i64 j, .int .i64 (-1), .int .i64 tj]) (t := 87) (fr := (0, 0)) (heap_alloc_new Wd _)) (by simp [Value.oneCell']) (by omega) (by unfold maxLen; omega) (by omega) (by simp; omega) (Wd.heap.size + 1) (by simp) ?_
        intro g5 c5 w7 hown7 hgrow _ _
        have m2 := ((k2.below HBD.out k2.lt).alloc _).grown hgrow (k2.ne_row87 (by decide) HH.out.row)
        have m3 := ((k3.below HBD.out k3.lt).alloc _).grown hgrow (k3.ne_row87 (by decide) HH.out.row)
        have mH := ((HH.out.h.below HBD.out HH.out.h.lt).alloc _).grown hgrow (HH.out.h.ne_row87 (by decide) HH.out.row)
        have e2 := m2.at_ (i := 0) rfl
        have e3 := m3.at_ (i := 0) rfl
        have e0 := mH.at_ (i := 0) rfl
        have e1 := mH.at_ (i := 2) rfl
        have ef := mH.frozen 0
        simp only [Act.put, List.setIfInBounds_toArray, List.set_cons_zero, List.set_cons_succ]
        refine hK.out _ _ ⟨e2, e3, e1⟩ (fun hHeld3 => ?_)
        clear hK K
        refine wpAnyH_take (i := 14) (oi := ⟨some 91, Op.nilCheck (Operand.tmp 77), 0, "class.go:94", #[⟨0, Ground.data⟩, ⟨0, Ground.phase⟩, ⟨1, Ground.phase⟩, ⟨2, Ground.phase⟩, ⟨3, Ground.phase⟩, ⟨4, Ground.phase⟩, ⟨5, Ground.phase⟩, ⟨6, Ground.phase⟩, ⟨7, Ground.phase⟩, ⟨8, Ground.phase⟩, ⟨9, Ground.phase⟩, ⟨10, Ground.phase⟩, ⟨11, Ground.phase⟩, ⟨12, Ground.phase⟩, ⟨13, Ground.phase⟩], none⟩) (v := .pointer (some ⟨H, 0, none⟩)) rfl (by kernel_rfl) (by kernel_rfl) (by kernel_rfl) (fun _ _ _ h => h) (Or.inl ⟨by rfl, fun w' hw' => ?_⟩) (by assumption) ?_
        · obtain ⟨y2, y3, y1⟩ := hw'
          go_simp
        simp only [Act.put, List.setIfInBounds_toArray, List.set_cons_zero, List.set_cons_succ]
        refine wpAnyH_take (i := 15) (oi := ⟨some 92, Op.fieldAddr 141 (Operand.tmp 91) 0, 0, "class.go:94", #[⟨14, Ground.data⟩, ⟨0, Ground.phase⟩, ⟨1, Ground.phase⟩, ⟨2, Ground.phase⟩, ⟨3, Ground.phase⟩, ⟨4, Ground.phase⟩, ⟨5, Ground.phase⟩, ⟨6, Ground.phase⟩, ⟨7, Ground.phase⟩, ⟨8, Ground.phase⟩, ⟨9, Ground.phase⟩, ⟨10, Ground.phase⟩, ⟨11, Ground.phase⟩, ⟨12, Ground.phase⟩, ⟨13, Ground.phase⟩], none⟩) (v := .pointer (some ⟨H, 0, none⟩)) rfl (by kernel_rfl) (by kernel_rfl) (by kernel_rfl) (fun _ _ _ h => h) (Or.inl ⟨by rfl, fun w' hw' => ?_⟩) (by assumption) ?_
        · obtain ⟨y2, y3, y1⟩ := hw'
          go_simp
        simp only [Act.put, List.setIfInBounds_toArray, List.set_cons_zero, List.set_cons_succ]
        refine wpAnyH_ready (rs := [16]) (by kernel_rfl) (by simp) ?_
        refine AllReadyH.cons (o := ⟨none, Op.store 81 (Operand.tmp 92) (Operand.tmp 90), 0, "class.go:94", #[⟨15, Ground.data⟩, ⟨13, Ground.data⟩, ⟨13, Ground.chain⟩, ⟨0, Ground.phase⟩, ⟨1, Ground.phase⟩, ⟨2, Ground.phase⟩, ⟨3, Ground.phase⟩, ⟨4, Ground.phase⟩, ⟨5, Ground.phase⟩, ⟨6, Ground.phase⟩, ⟨7, Ground.phase⟩, ⟨8, Ground.phase⟩, ⟨9, Ground.phase⟩, ⟨10, Ground.phase⟩, ⟨11, Ground.phase⟩, ⟨12, Ground.phase⟩, ⟨13, Ground.phase⟩], none⟩) rfl (fun K hK => ?_) AllReadyH.nil
        go_simp
        have n2 := m2.far (p := ⟨H, 0, none⟩) (show w.heap.size ≠ H by omega) (.slice (some ⟨g5, 0, none⟩) (P'.length + 1) c5)
        have n3 := m3.far (p := ⟨H, 0, none⟩) (show w.heap.size + 1 ≠ H by omega) (.slice (some ⟨g5, 0, none⟩) (P'.length + 1) c5)
        have hN := hnd_step (x := ⟨i, j, -1, tj⟩) HH.out HBD.out hown7 hgrow
        have q8 := n2.at_ (i := 0) rfl
        have qH := hN.h.at_ (i := 2) rfl
        have qf := hN.h.frozen 2
        refine hK.out _ _ ⟨q8, n3.at_ (i := 0) rfl, qH⟩ (fun _ => ?_)
        clear hK K
        refine wpAnyH_done (by kernel_rfl) ?_ _
        refine NoPanic.normal ?_
        have HN := Lib.hid (hN.setT (tj + 8))
        have HM2 := Lib.hid (n2.far (p := ⟨H, 2, none⟩) (show w.heap.size ≠ H by omega) (.int .i64 (tj + 8)))
        have HM3 := Lib.hid (n3.far (p := ⟨H, 2, none⟩) (show w.heap.size + 1 ≠ H by omega) (.int .i64 (tj + 8)))
        clear hN n2 n3 m2 m3 mH e0 e1 e2 e3 ef hown7 hgrow
        go_wp2_with fail
        go_roundw
        case rel =>
          refine ⟨j + 1, by go_num, by omega, ⟨some ⟨g5, 0, none⟩, c5, ?_⟩, HM2.out, HM3.out⟩
          have h := HN.out
          rw [List.range_succ, List.map_append, ← List.append_assoc, HP'.out]
          simp only [List.map_cons, List.map_nil]
          rw [HTJ.out, show tu + 8 * ((j + 1 : Nat) : Int) = tj + 8 by have := HTJ.out; omega]
          exact h
        case measure => simp [intOf]; omega
      · obtain rfl : j = m := by omega
        go_wp2_with fail
        refine ⟨_, results_none rfl _ _ _, ⟨⟨_, rfl⟩, S', sc', ?_⟩⟩
        rw [HL.out, HSZ.out, HAG.out]
        unfold ovL ovR ovT
        rw [hft, if_neg (by decide), if_neg (by decide), if_neg (by decide), HUS.out, HMM.out, HMX.out, HTU.out]
        exact hh
end Go.Proofs.Ytcggghamnmflcaa
