/- burinref11.walk: what the reference says a path leads to. -/
import Derived.Test.YtcggghamnmflcaaGi
import Derived.Test.YtcggghamnmflcaaSrh
import Derived.Deep.RegionHeld3
import Derived.Deep.AppendLies
import Derived.Maps.AppendAt
import Derived.Laws.OwnMore
import Derived.OneCell
namespace Go.Proofs.Ytcggghamnmflcaa
open Go Go.RowKit Go.Shelf
theorem results92 {tmps : Array Value} {W : World} {g : Nat} {a b c v : Value} {k : Bool} (h4 : tmps.getD 8 undef = .pointer (some ⟨g, 0, none⟩)) (h5 : tmps.getD 9 undef = v) (h6 : tmps.getD 10 undef = .bool k) (h : Bk W g 48 #[a, b, c]) :
    (results Try.f92 tmps).run Try.prog W = .ok (.tuple #[.agg #[a, b, c], v, .bool k]) W := by
  have c0 : W.cell? ⟨g, 0, none⟩ = some a := h.at_ (i := 0) rfl
  have c1 : W.cell? ⟨g, 1, none⟩ = some b := h.at_ (i := 1) rfl
  have c2 : W.cell? ⟨g, 2, none⟩ = some c := h.at_ (i := 2) rfl
  rw [Array.getD_eq_getD_getElem?] at h4 h5 h6
  simp [results, Try.results92, go_sem, h4, h5, h6, c0, c1, c2]
theorem info133 : (Try.prog.info? 133).map (fun i => (i.zero, i.size, i.bytes)) = some (some (.agg #[.int .i64 0, .int .i64 0, .int .i64 0, .int .i64 0]), 4, 32) := by kernel_rfl
/-- A row of steps, read. -/
theorem stps_of_row' {W : World} {base : Nat} {E : TypeId} {A : Option Addr} {n c : Nat} {L : List Stp} (h : W.ownsRow base E 4 (.slice A n c) L.length (stpC L)) (hn : n = L.length) : StpsAt W A n L := by
  refine ⟨hn, fun i s hs => ?_⟩
  obtain ⟨e0, e1, e2, e3⟩ := stpC_get hs
  rcases h.2 with ⟨h1, h2⟩ | ⟨g, cap, cur, h1, _⟩
  · injection h1 with a1 a2 a3
    subst a2
    rw [List.length_eq_zero_iff.1 hn.symm] at hs
    simp at hs
  · injection h1 with a1 a2 a3
    subst a1
    have hc := fun j u hu => h.cells (g := g) rfl j u hu
    have hz : ∀ j : Nat, ((⟨g, 0, none⟩ : Addr).add j) = ⟨g, 0 + j, none⟩ := fun j => add_off _ rfl j
    refine ⟨g, 0, rfl, ?_, ?_, ?_, ?_⟩
    · have := hc _ _ e0; rw [hz] at this; exact this
    · have := hc _ _ e1; rw [hz] at this; exact this
    · have := hc _ _ e2; rw [hz] at this; exact this
    · have := hc _ _ e3; rw [hz] at this; exact this
theorem stpC_len (L : List Stp) : (stpC L).length = L.length * 4 := by
  induction L with
  | nil => rfl
  | cons a L ih => show (_ ++ stpC L).length = _; rw [List.length_append, ih, List.length_cons]; simp only [List.length_cons, List.length_nil]; omega
theorem stpC_app (L K : List Stp) : stpC (L ++ K) = stpC L ++ stpC K := List.flatMap_append
theorem stpC_one (L : List Stp) : ∀ u ∈ stpC L, u.oneCell' = true := fun u hu => by
  unfold stpC at hu
  rw [List.mem_flatMap] at hu
  obtain ⟨s, _, hs⟩ := hu
  simp only [List.mem_cons, List.not_mem_nil, or_false] at hs
  rcases hs with rfl | rfl | rfl | rfl <;> rfl
/-- The cells of steps in memory, one behind the other. -/
theorem stps_cells {w : World} {ad : Addr} {n : Nat} : ∀ {l : List Stp}, StpsAt w (some ad) n l → ∀ j u, (stpC l)[j]? = some u → w.cell? (ad.add j) = some u := by
  intro l h j u hu
  have hj : j < (stpC l).length := (List.getElem?_eq_some_iff.1 hu).1
  rw [stpC_len] at hj
  obtain ⟨s, hs⟩ : ∃ s, l[j / 4]? = some s := ⟨_, List.getElem?_eq_getElem (by omega)⟩
  obtain ⟨b, o, he, c0, c1, c2, c3⟩ := h.2 _ _ hs
  obtain ⟨e0, e1, e2, e3⟩ := stpC_get hs
  cases he
  rw [add_off _ rfl]
  simp only
  have hm : j % 4 = 0 ∨ j % 4 = 1 ∨ j % 4 = 2 ∨ j % 4 = 3 := by omega
  rcases hm with q | q | q | q
  · rw [show j / 4 * 4 = j by omega] at c0 e0; rw [e0] at hu; cases hu; exact c0
  · rw [show o + j / 4 * 4 + 1 = o + j by omega] at c1; rw [show j / 4 * 4 + 1 = j by omega] at e1; rw [e1] at hu; cases hu; exact c1
  · rw [show o + j / 4 * 4 + 2 = o + j by omega] at c2; rw [show j / 4 * 4 + 2 = j by omega] at e2; rw [e2] at hu; cases hu; exact c2
  · rw [show o + j / 4 * 4 + 3 = o + j by omega] at c3; rw [show j / 4 * 4 + 3 = j by omega] at e3; rw [e3] at hu; cases hu; exact c3
set_option maxRecDepth 100000 in
/-- append(row, more...) -/
theorem app133 (w : World) (base : Nat) (ty : TypeId) (v : Value) (L : List Stp) (hown : w.ownsRow base 133 4 v L.length (stpC L)) (A : Option Addr) (m c : Nat) (us : List Stp) (hA : StpsAt w A m us) (h63 : L.length + us.length ≤ 100) (hbase : base ≤ w.heap.size) :
    ∃ v' w', (Builtin.append_ #[128, 128] ty #[v, .slice A m c]).run Try.prog w = .ok v' w' ∧ w'.ownsRow base 133 4 v' (L ++ us).length (stpC (L ++ us)) ∧ w.grownBy w' v.ownBlock := by
  obtain ⟨i0, hi0, hz0', hz1', hz2'⟩ := info_parts info133
  obtain rfl : m = us.length := hA.1
  cases A with
  | none =>
    cases us with
    | cons s us => obtain ⟨b, o, h, -⟩ := hA.2 0 s rfl; cases h
    | nil =>
    refine ⟨v, w, ?_, by simpa using hown, World.grownBy.refl _ _⟩
    have hv : ∃ g n cap, v = .slice g n cap ∧ n ≤ cap := by
      rcases hown.2 with ⟨h1, _⟩ | ⟨g, cap, cur, h1, _, _, h3, _⟩
      · exact ⟨none, 0, 0, h1, Nat.le_refl _⟩
      · exact ⟨_, _, _, h1, h3⟩
    obtain ⟨g, n, cap, rfl, hle⟩ := hv
    cases g with
    | none =>
      rcases hown.2 with ⟨h1, _⟩ | ⟨_, _, _, h1, _⟩
      · injection h1 with _ h2 h3
        subst h2 h3
        simp [Builtin.append_, run_underlying Try.underlying128, sizeOf, typeInfo, hi0, Builtin.lenOf, Builtin.firstCells]
      · cases h1
    | some g => simp [Builtin.append_, run_underlying Try.underlying128, sizeOf, typeInfo, hi0, hle, storeCells, Builtin.lenOf, Builtin.firstCells]
  | some ad =>
    obtain ⟨v', w', e1, e2, e3, _⟩ := run_append_own_at w base 128 ty 133 i0 _ 4 32 Try.underlying128 hi0 hz0' hz1' hz2' rfl (by decide) v L.length (stpC L) hown ad us.length c (stpC us) (by rw [stpC_len]) (stps_cells hA) (stpC_one _) (by unfold maxLen; omega) (by omega) hbase
    refine ⟨v', w', e1, ?_, e3⟩
    rw [stpC_app, List.length_append]
    exact e2
/-- append(row, more...) as a step of a drawn region. -/
theorem step_app133 {ops : Array Oper} {o : Oper} {a : Act} {K : Act → World → Prop} {Q : Exit → Act → World → Prop} {E : Prop} (hgd : o.guard = none) (s x : Operand)
    (ho : o.op = .call { callee := .builtin .append, args := #[s, x], argTypes := #[128, 128] }) (w : World) (base : Nat) (v : Value) (L : List Stp) (hs : a.eval s = v) (hown : w.ownsRow base 133 4 v L.length (stpC L))
    (A : Option Addr) (m c : Nat) (us : List Stp) (hx : a.eval x = .slice A m c) (hA : StpsAt w A m us) (h63 : L.length + us.length ≤ 100) (hbase : base ≤ w.heap.size)
    (h : ∀ v' w', w'.ownsRow base 133 4 v' (L ++ us).length (stpC (L ++ us)) → w.grownBy w' v.ownBlock → K (a.put o.dst v') w') :
    if Region.wanted o (yielded ops a.tmps) = true then Oper.wp Try.prog o a w K Q else E := by
  have hw : Region.wanted o (yielded ops a.tmps) = true := by simp [Region.wanted, hgd]
  rw [if_pos hw]
  obtain ⟨v', w', e1, e2, e3⟩ := app133 w base o.type v L hown A m c us hA h63 hbase
  unfold Oper.wp execOp
  simp only [ho, resolve, invoke, builtin, Sem.run_bind, Sem.run_pure, Result.andThen_ok, List.map_toArray, List.map_cons, List.map_nil, hs, hx, e1]
  exact h v' w' e2 e3
theorem far3 {W : World} {a : Addr} {v : Value} {g : Nat} (h : W.cell? a = some v) (hn : a.block ≠ g) (u0 u1 u2 : Value) : (((W.setCell ⟨g, 0, none⟩ u0).setCell ⟨g, 1, none⟩ u1).setCell ⟨g, 2, none⟩ u2).cell? a = some v := by
  rw [World.cell?_setCell_far _ _ _ _ (Ne.symm hn), World.cell?_setCell_far _ _ _ _ (Ne.symm hn), World.cell?_setCell_far _ _ _ _ (Ne.symm hn)]
  exact h
/-- What the reference's walk holds in memory. -/
structure RwS (w : World) (G : Nat) (tc xc : Array Value) (W : World) : Prop where
  g4 : Bk W w.heap.size 38 tc
  g8 : ∃ u0 u1 u2, Bk W (w.heap.size + 1) 48 #[u0, u1, u2]
  g11 : Bk W G 58 xc
  bel : Below w.heap.size w W
  far : w.heap.size + 1 < G
theorem RwS.below {w : World} {G : Nat} {tc xc : Array Value} {W W' : World} (h : RwS w G tc xc W) (hb : Below W.heap.size W W') : RwS w G tc xc W' := by
  obtain ⟨u0, u1, u2, h8⟩ := h.g8
  exact ⟨h.g4.below hb h.g4.lt, ⟨u0, u1, u2, h8.below hb h8.lt⟩, h.g11.below hb h.g11.lt, bel_then h.bel hb, h.far⟩
theorem RwS.set8 {w : World} {G : Nat} {tc xc : Array Value} {W : World} (h : RwS w G tc xc W) (a b c : Value) : RwS w G tc xc (((W.setCell ⟨w.heap.size + 1, 0, none⟩ a).setCell ⟨w.heap.size + 1, 1, none⟩ b).setCell ⟨w.heap.size + 1, 2, none⟩ c) := by
  obtain ⟨u0, u1, u2, h8⟩ := h.g8
  have hf := h.far
  exact ⟨((h.g4.far (p := ⟨w.heap.size + 1, 0, none⟩) (by dsimp only; omega) _).far (p := ⟨w.heap.size + 1, 1, none⟩) (by dsimp only; omega) _).far (p := ⟨w.heap.size + 1, 2, none⟩) (by dsimp only; omega) _,
    ⟨a, b, c, fin3 h8 _ _ _⟩,
    ((h.g11.far (p := ⟨w.heap.size + 1, 0, none⟩) (by dsimp only; omega) _).far (p := ⟨w.heap.size + 1, 1, none⟩) (by dsimp only; omega) _).far (p := ⟨w.heap.size + 1, 2, none⟩) (by dsimp only; omega) _,
    fin3b h.bel (by omega) _ _ _, h.far⟩
theorem RwS.farG {w : World} {G : Nat} {tc xc : Array Value} {W : World} (h : RwS w G tc xc W) {g : Nat} (hg : G < g) (i : Nat) (v : Value) : RwS w G tc xc (W.setCell ⟨g, i, none⟩ v) := by
  obtain ⟨u0, u1, u2, h8⟩ := h.g8
  have hf := h.far
  exact ⟨h.g4.far (p := ⟨g, i, none⟩) (by dsimp only; omega) _, ⟨u0, u1, u2, h8.far (p := ⟨g, i, none⟩) (by dsimp only; omega) _⟩, h.g11.far (p := ⟨g, i, none⟩) (by dsimp only; omega) _, bel_set h.bel (by dsimp only; omega) _, h.far⟩
theorem RwS.grown {w : World} {G : Nat} {tc xc : Array Value} {W W' : World} (h : RwS w G tc xc W) {row : Option Nat} (hg : W.grownBy W' row) (hr : ∀ k, row = some k → G < k) : RwS w G tc xc W' := by
  obtain ⟨u0, u1, u2, h8⟩ := h.g8
  have hf := h.far
  exact ⟨h.g4.grown hg (fun e => by have := hr _ e.symm; omega), ⟨u0, u1, u2, h8.grown hg (fun e => by have := hr _ e.symm; omega)⟩, h.g11.grown hg (fun e => by have := hr _ e.symm; omega), Below.grown h.bel hg h.bel.size (fun k e => by have := hr _ e; omega), h.far⟩
theorem own_below {W W' : World} {base n z : Nat} {E : TypeId} {v : Value} {xs : List Value} (h : W.ownsRow base E z v n xs) (hb : Below W.heap.size W W') : W'.ownsRow base E z v n xs :=
  h.kept (row := none) ⟨hb.os, hb.tape, hb.output, hb.size, fun i hi _ => hb.block i hi⟩ (Classical.em _)
/-- What the reference's walk answers. -/
def RwP (d : Nat) (t : Tp d) (fr dp : Int) (p : List Int) (kk : Int) (w : World) (e : Ending) (w' : World) : Prop :=
  ∃ (sp : Spt) (us : List Stp) (B : Option Addr) (k c' : Nat) (ok : Bool), e = .returned (.tuple #[.agg #[.int .i64 sp.bit, .int .i64 sp.bits, .int .i64 sp.k], .slice B k c', .bool ok]) ∧ StpsF w.heap.size w' B k us ∧ (us.length : Int) ≤ kk ∧
    ((ok = true ∧ walkS d t fr dp p = some (sp, us)) ∨ (ok = false ∧ walkS d t fr dp p = none)) ∧ Below w.heap.size w w'
def RwC (d : Nat) : Prop := ∀ (t : Tp d) (v0 v1 v2 v3 v4 v5 v6 : Value) (A : Option Addr) (p : List Int) (c : Nat) (fr dp kk : Int) (b : Bx) (w : World), plainS d t kk = true → kk ≤ 6 → boxS d t = some b → TyAt w d t [v0, v1, v2, v3, v4, v5, v6] →
  IntsAt w A p.length p → p.length ≤ c → c ≤ 9223372036854775807 → 0 ≤ fr → fr + 8 * b.size ≤ 524288 → 0 ≤ dp → dp + p.length ≤ 9223372036854775807 →
  Calls Try.prog 92 #[.agg #[v0, v1, v2, v3, v4, v5, v6], .int .i64 fr, .int .i64 dp, .slice A p.length c] w (RwP d t fr dp p kk w)
theorem RwP.no {d : Nat} {t : Tp d} {fr dp : Int} {p : List Int} {kk : Int} {w w' : World} {a b k : Int} (hk : 0 ≤ kk) (hw : walkS d t fr dp p = none) (hb : Below w.heap.size w w') :
    RwP d t fr dp p kk w (.returned (.tuple #[.agg #[.int .i64 a, .int .i64 b, .int .i64 k], .slice none 0 0, .bool false])) w' :=
  ⟨⟨a, b, k⟩, [], none, 0, 0, false, rfl, StpsF.nil _ _, hk, .inr ⟨rfl, hw⟩, hb⟩
set_option maxRecDepth 100000 in
set_option maxHeartbeats 8000000 in
theorem rwalk_s {d : Nat} (IH : RwC d) : RwC (d + 1) := by
  intro t v0 v1 v2 v3 v4 v5 v6 A p c fr dp kk b w hp hk6 hb ht hP hc1 hc2 hf0 hf1 hd0 hd1
  obtain ⟨t, rfl⟩ : ∃ t' : Nd (Tp d), t = t' := ⟨t, rfl⟩
  have HTY := Lib.hid ht
  obtain ⟨A1, A2, c1, c2, hcs, b1, b2, b3, b4, l1, l2, m1, m2, hof, hfs⟩ := id ht
  simp only [List.cons.injEq, and_true] at hcs
  obtain ⟨rfl, rfl, rfl, rfl, rfl, rfl, rfl⟩ := hcs
  have hk1 := plain_low1 hp
  have h6 := plain_mono _ _ _ 6 hp hk6
  have he := err_of h6 (by omega) hb
  have hok := boxS_ok _ _ _ _ h6 hb
  have hss := plain_sh h6
  have HO := fun w' (hb : Below w.heap.size w w') => rOf_c (ht.below hb)
  unfold OfP at HO
  rw [he.1, he.2.1, he.2.2.1, he.2.2.2] at HO
  obtain ⟨sz, hsz⟩ : ∃ x, b.size = x := ⟨_, rfl⟩
  obtain ⟨ag, hag⟩ : ∃ x, b.align = x := ⟨_, rfl⟩
  obtain ⟨bl, hbl⟩ : ∃ x, b.l = x := ⟨_, rfl⟩
  rw [hsz, hag, hbl] at HO
  have y1 : 1 ≤ sz ∧ sz ≤ 65536 := by have := hok.1; have := hok.2.1; omega
  have y3 : fr + 8 * sz ≤ 524288 := by omega
  have hbs : bsz (d + 1) t = sz := by unfold bsz; rw [he.2.1, hsz]
  have HBS := Lib.hid hbs
  have HSZ := Lib.hid hsz
  have HBL := Lib.hid hbl
  have HH6 := Lib.hid h6
  have HPL := Lib.hid hp
  have HBX := Lib.hid hb
  have HE := Lib.hid he
  have HOF := Lib.hid (show TysAt w d A1 t.of from hof)
  have HFS := Lib.hid (show FdsAt w d A2 t.fs from hfs)
  have HPA := Lib.hid hP
  clear hbs hsz hag hbl he hok h6 hp hb ht hof hfs hP hf1
  obtain ⟨sh, hsh⟩ : ∃ x, t.sh = x := ⟨_, rfl⟩
  rw [hsh] at hss HO ⊢
  replace HO := Lib.hid HO
  have HSH := Lib.hid hsh
  clear hsh
  go_enter Try.func92, Try.ntmps92
  go_upto_region 1 with (fail)
  have hT := (Bk.new w 38 #[.int .i64 sh, .int .i64 t.k, .int .i64 t.n, .slice A1 t.of.length c1, .slice A2 t.fs.length c2, .bool t.pk, .int .i64 t.al]).alloc (.cells #[.int .i64 0, .int .i64 0, .int .i64 0] 48)
  have h8 := Bk.new1 w (.cells #[.int .i64 sh, .int .i64 t.k, .int .i64 t.n, .slice A1 t.of.length c1, .slice A2 t.fs.length c2, .bool t.pk, .int .i64 t.al] 38) 48 #[.int .i64 0, .int .i64 0, .int .i64 0]
  have hb0 := bel_alloc (bel_alloc (Below.refl _ w) (.cells #[.int .i64 sh, .int .i64 t.k, .int .i64 t.n, .slice A1 t.of.length c1, .slice A2 t.fs.length c2, .bool t.pk, .int .i64 t.al] 38)) (.cells #[.int .i64 0, .int .i64 0, .int .i64 0] 48)
  generalize World.alloc (World.alloc w _) _ = W0 at hT h8 hb0 ⊢
  have t0 := hT.at_ (i := 0) rfl; have t1 := hT.at_ (i := 1) rfl; have t2 := hT.at_ (i := 2) rfl; have t3 := hT.at_ (i := 3) rfl; have t4 := hT.at_ (i := 4) rfl; have t5 := hT.at_ (i := 5) rfl; have t6 := hT.at_ (i := 6) rfl
  go_wp2_with fail
  refine (HO.out _ hb0).mono ?_
  rintro e w1 ⟨XA, xn, xc, rfl, hb1, hx, -⟩
  have hX := (hx trivial).1
  obtain rfl := hX.1
  have h81 := (h8.below hb1 h8.lt).alloc (.cells #[.int .i64 sz, .int .i64 ag, .bool false, .slice XA bl.length xc] 58)
  have hT1 := (hT.below hb1 hT.lt).alloc (.cells #[.int .i64 sz, .int .i64 ag, .bool false, .slice XA bl.length xc] 58)
  have h11 := Bk.new w1 58 #[.int .i64 sz, .int .i64 ag, .bool false, .slice XA bl.length xc]
  have hb2 := bel_alloc (bel_then hb0 hb1) (.cells #[.int .i64 sz, .int .i64 ag, .bool false, .slice XA bl.length xc] 58)
  have hs1 := (h8.below hb1 h8.lt).lt
  have hX2 := hX.below (bel_alloc (Below.refl _ w1) (.cells #[.int .i64 sz, .int .i64 ag, .bool false, .slice XA bl.length xc] 58))
  clear t0 t1 t2 t3 t4 t5 t6 hb0 hb1 hT h8 hx hX HO
  go_upto_region 2 with (fail)
  generalize World.alloc w1 _ = W2 at h81 hT1 h11 hb2 hX2 ⊢
  obtain ⟨G, hG⟩ : ∃ g, w1.heap.size = g := ⟨_, rfl⟩
  rw [hG] at h11 hs1 ⊢
  have hg1 : G < W2.heap.size := h11.lt
  clear hG
  have HB2 := Lib.hid hb2
  obtain ⟨TC, hTC⟩ : ∃ a : Array Value, #[.int .i64 sh, .int .i64 t.k, .int .i64 t.n, .slice A1 t.of.length c1, .slice A2 t.fs.length c2, .bool t.pk, .int .i64 t.al] = a := ⟨_, rfl⟩
  obtain ⟨XC, hXC⟩ : ∃ a : Array Value, #[.int .i64 sz, .int .i64 ag, .bool false, .slice XA bl.length xc] = a := ⟨_, rfl⟩
  have HS2 := Lib.hid (show RwS w G TC XC W2 from ⟨hTC ▸ hT1, ⟨_, _, _, h81⟩, hXC ▸ h11, hb2, hs1⟩)
  have HX0 := Lib.hid (show ∀ W', RwS w G TC XC W' → W'.cell? ⟨G, 0, none⟩ = some (.int .i64 sz) from fun W' (h : RwS w G TC XC W') => (show Bk W' G 58 #[.int .i64 sz, .int .i64 ag, .bool false, .slice XA bl.length xc] from hXC ▸ h.g11).at_ (i := 0) rfl)
  have HX3 := Lib.hid (show ∀ W', RwS w G TC XC W' → W'.cell? ⟨G, 3, none⟩ = some (.slice XA bl.length xc) from fun W' (h : RwS w G TC XC W') => (show Bk W' G 58 #[.int .i64 sz, .int .i64 ag, .bool false, .slice XA bl.length xc] from hXC ▸ h.g11).at_ (i := 3) rfl)
  have HT2 : ∀ W', RwS w G TC XC W' → W'.cell? ⟨w.heap.size, 2, none⟩ = some (.int .i64 t.n) := fun W' (h : RwS w G TC XC W') => (show Bk W' w.heap.size 38 #[.int .i64 sh, .int .i64 t.k, .int .i64 t.n, .slice A1 t.of.length c1, .slice A2 t.fs.length c2, .bool t.pk, .int .i64 t.al] from hTC ▸ h.g4).at_ (i := 2) rfl
  have HT3 : ∀ W', RwS w G TC XC W' → W'.cell? ⟨w.heap.size, 3, none⟩ = some (.slice A1 t.of.length c1) := fun W' (h : RwS w G TC XC W') => (show Bk W' w.heap.size 38 #[.int .i64 sh, .int .i64 t.k, .int .i64 t.n, .slice A1 t.of.length c1, .slice A2 t.fs.length c2, .bool t.pk, .int .i64 t.al] from hTC ▸ h.g4).at_ (i := 3) rfl
  have HT4 : ∀ W', RwS w G TC XC W' → W'.cell? ⟨w.heap.size, 4, none⟩ = some (.slice A2 t.fs.length c2) := fun W' (h : RwS w G TC XC W') => (show Bk W' w.heap.size 38 #[.int .i64 sh, .int .i64 t.k, .int .i64 t.n, .slice A1 t.of.length c1, .slice A2 t.fs.length c2, .bool t.pk, .int .i64 t.al] from hTC ▸ h.g4).at_ (i := 4) rfl
  replace HT2 := Lib.hid HT2
  replace HT3 := Lib.hid HT3
  replace HT4 := Lib.hid HT4
  clear hTC hXC
  have HX2 := Lib.hid hX2
  clear hb2 hX2
  have t0 := hT1.at_ (i := 0) rfl; have t1 := hT1.at_ (i := 1) rfl; have t2 := hT1.at_ (i := 2) rfl; have t3 := hT1.at_ (i := 3) rfl; have t4 := hT1.at_ (i := 4) rfl
  have x0 := h11.at_ (i := 0) rfl; have x3 := h11.at_ (i := 3) rfl
  have f80 := h81.frozen 0; have f81 := h81.frozen 1; have f82 := h81.frozen 2
  have u80 := h81.at_ (i := 0) rfl; have u81 := h81.at_ (i := 1) rfl; have u82 := h81.at_ (i := 2) rfl
  by_cases h12 : sh = 1 ∨ sh = 2
  · obtain ⟨k, hk⟩ : ∃ x, t.k = x := ⟨_, rfl⟩
    rw [hk] at t1 ⊢
    obtain ⟨np, hnp⟩ : ∃ x, p.length = x := ⟨_, rfl⟩
    rw [hnp] at hc1 hd1 ⊢
    obtain ⟨ok, hok⟩ : ∃ x, ((np : Int) == 0) = x := ⟨_, rfl⟩
    rcases h12 with rfl | rfl
    · go_wp2_with fail
      have HEQ : ((ok = true ∧ walkS (d + 1) t fr dp p = some (⟨fr, 8 * sz, k⟩, [])) ∨ (ok = false ∧ walkS (d + 1) t fr dp p = none)) := by
        cases p with
        | nil => left; exact ⟨by rw [← hok, ← hnp]; rfl, by rw [walk_num (.inl HSH.out), HBS.out, if_neg (by rw [HSH.out]; decide), hk]⟩
        | cons i q' => right; exact ⟨by rw [← hok, ← hnp]; simp; omega, walk_num_no (.inl HSH.out) (by simp)⟩
      exact bodyPost_ret (results92 rfl rfl rfl (fin3 h81 _ _ _)) rfl ⟨⟨fr, 8 * sz, k⟩, [], none, 0, 0, ok, rfl, StpsF.nil _ _, by simp; omega, HEQ, fin3b HB2.out (by omega) _ _ _⟩
    · go_wp2_with fail
      have HEQ : ((ok = true ∧ walkS (d + 1) t fr dp p = some (⟨fr, 8 * sz, 8⟩, [])) ∨ (ok = false ∧ walkS (d + 1) t fr dp p = none)) := by
        cases p with
        | nil => left; exact ⟨by rw [← hok, ← hnp]; rfl, by rw [walk_num (.inr HSH.out), HBS.out, if_pos HSH.out]⟩
        | cons i q' => right; exact ⟨by rw [← hok, ← hnp]; simp; omega, walk_num_no (.inr HSH.out) (by simp)⟩
      exact bodyPost_ret (results92 rfl rfl rfl (fin3 h81 _ _ _)) rfl ⟨⟨fr, 8 * sz, 8⟩, [], none, 0, 0, ok, rfl, StpsF.nil _ _, by simp; omega, HEQ, fin3b HB2.out (by omega) _ _ _⟩
  · have hs1' : sh ≠ 1 := fun h => h12 (.inl h)
    have hs2' : sh ≠ 2 := fun h => h12 (.inr h)
    have hd1 : (sh == 1) = false := by simpa using hs1'
    have hd2 : (sh == 2) = false := by simpa using hs2'
    have HNW := Lib.hid (show ¬ (t.sh = 1 ∨ t.sh = 2) by rw [HSH.out]; exact h12)
    cases p with
    | nil =>
      have HEQ := Lib.hid (walk_nil (fr := fr) (dp := dp) HNW.out)
      go_wp2_with fail
      exact bodyPost_ret (results92 rfl rfl rfl (fin3 h81 _ _ _)) rfl (RwP.no (by omega) HEQ.out (fin3b HB2.out (by omega) _ _ _))
    | cons i q =>
      obtain ⟨ib, io, rfl, i0⟩ := (HPA.out.below HB2.out).2 0 i rfl
      simp only [Nat.add_zero] at i0
      rw [List.length_cons] at hc1 hd1 ⊢
      obtain ⟨nq, hnq⟩ : ∃ x, q.length = x := ⟨_, rfl⟩
      rw [hnq] at hc1 hd1 ⊢
      have HNQ := Lib.hid hnq
      clear hnq
      have z1 : (1 : Int) ≤ ((nq + 1 : Nat) : Int) := by omega
      have z3 : (((nq + 1 : Nat) : Int) == 0) = false := by simp; omega
      by_cases hneg : i < 0
      · have HEQ := Lib.hid (walk_neg (fr := fr) (dp := dp) (q := q) HNW.out hneg)
        go_wp2_with fail
        exact bodyPost_ret (results92 rfl rfl rfl (fin3 h81 _ _ _)) rfl (RwP.no (by omega) HEQ.out (fin3b HB2.out (by omega) _ _ _))
      · have hneg' : decide (i < 0) = false := decide_eq_false hneg
        go_upto_region 10 with (fail)
        by_cases h3 : sh = 3
        · subst h3
          obtain ⟨x, bx, hof, hbare, hk0, n1, n2, px6, hbx, hbe, hle, okx⟩ := arr_parts HSH.out HH6.out HBX.out
          have HXP := Lib.hid (plain_arr HPL.out HSH.out hof)
          obtain ⟨n, hn⟩ : ∃ n, t.n = n := ⟨_, rfl⟩
          have HT2' := HT2.out
          rw [hn] at t2 HT2' n1 n2 hle hbe
          replace HT2 := Lib.hid HT2'
          clear HT2'
          have HN := Lib.hid hn
          by_cases hin : n ≤ i
          · have HEQ := Lib.hid (walk_arr_no (fr := fr) (dp := dp) (i := i) (q := q) HSH.out (by omega) (by rw [hn]; exact hin))
            have hin' : decide (n ≤ i) = true := decide_eq_true hin
            clear hn hof hbe
            go_wp2_with fail
            exact bodyPost_ret (results92 rfl rfl rfl (fin3 h81 _ _ _)) rfl (RwP.no (by omega) HEQ.out (fin3b HB2.out (by omega) _ _ _))
          · have hin' : decide (n ≤ i) = false := decide_eq_false hin
            have HWE := Lib.hid (walk_arr (fr := fr) (dp := dp) (i := i) (q := q) HSH.out (by omega) (by rw [hn]; omega) hof)
            have hszn : sz = bx.size * n := by have := HSZ.out; rw [hbe] at this; exact this.symm
            have hbx8 : bsz d x = bx.size := by unfold bsz; rw [(err_of px6 (by omega) hbx).2.1]
            rw [hbx8] at HWE
            obtain ⟨z8, hz8⟩ : ∃ x, 8 * bx.size = x := ⟨_, rfl⟩
            rw [hz8] at HWE
            have hq : 8 * sz / n = z8 := by rw [hszn, ← Int.mul_assoc, hz8]; exact Int.mul_ediv_cancel _ (by omega)
            have ox := okx.1
            have hm1 : 0 ≤ z8 * i := Int.mul_nonneg (by omega) (by omega)
            have hm2 : z8 * i ≤ z8 * (n - 1) := Int.mul_le_mul_of_nonneg_left (by omega) (by omega)
            have hm3 : z8 * (n - 1) = 8 * sz - z8 := by rw [Int.mul_sub, Int.mul_one, ← hz8, hszn, Int.mul_assoc]
            obtain ⟨zi, hzi⟩ : ∃ x, z8 * i = x := ⟨_, rfl⟩
            rw [hzi] at hm1 hm2 HWE
            have hzb : zi + z8 ≤ 8 * sz := by omega
            have hz80 : 8 ≤ z8 := by omega
            have ofl : t.of.length = 1 := by rw [hof]; rfl
            have HT3' := HT3.out
            rw [ofl] at t3 HT3'
            replace HT3 := Lib.hid HT3'
            clear HT3'
            obtain ⟨xb, xo, s0, s1, s2, s3, s4, s5, s6, rfl, hxt, p0, p1, p2, p3, p4, p5, p6⟩ := HOF.out.at_ (i := 0) (x := x) (by rw [hof]; rfl)
            simp only [Nat.zero_mul, Nat.add_zero] at p0 p1 p2 p3 p4 p5 p6
            have HPS := Lib.hid (fun W' (hb : Below w.heap.size w W') => And.intro (bel_cell hb p0) (And.intro (bel_cell hb p1) (And.intro (bel_cell hb p2) (And.intro (bel_cell hb p3) (And.intro (bel_cell hb p4) (And.intro (bel_cell hb p5) (bel_cell hb p6)))))))
            have HP0 := Lib.hid p0
            replace p0 := bel_cell HB2.out p0; replace p1 := bel_cell HB2.out p1; replace p2 := bel_cell HB2.out p2; replace p3 := bel_cell HB2.out p3; replace p4 := bel_cell HB2.out p4; replace p5 := bel_cell HB2.out p5; replace p6 := bel_cell HB2.out p6
            have HXT := Lib.hid hxt
            have HBX2 := Lib.hid hbx
            have HZ8 := Lib.hid hz8
            have HTI := Lib.hid HPA.out.tail
            clear hn hof hbe hszn hbx8 hm2 hm3 hxt hbx hz8 px6 hle
            go_wp2_with fail
            have HIH := Lib.hid (fun w' (hb' : Below w.heap.size w w') (B : Option Addr) (hB : IntsAt w B nq q) k2 (h1 : nq ≤ k2) (h2 : k2 ≤ 9223372036854775807) => show Calls Try.prog 92 #[.agg #[s0, s1, s2, s3, s4, s5, s6], .int .i64 (fr + zi), .int .i64 (dp + 1), .slice B nq k2] w' (RwP d x (fr + zi) (dp + 1) q (kk - 1) w') from by
              have := IH x s0 s1 s2 s3 s4 s5 s6 B q k2 (fr + zi) (dp + 1) (kk - 1) bx w' HXP.out (by omega) HBX2.out (HXT.out.below hb') (by rw [HNQ.out]; exact hB.below hb') (by rw [HNQ.out]; exact h1) h2 (by omega) (by have := HZ8.out; omega) (by omega) (by rw [HNQ.out]; omega)
              rwa [HNQ.out] at this)
            have fx : xb < w.heap.size := World.block_lt_of_cell? _ _ HP0.out
            have w2 : wrap64 zi = zi := IntWalk.wrap64_in _ (by omega)
            have w3 : wrap64 (fr + zi) = fr + zi := IntWalk.wrap64_in _ (by omega)
            have hTT := HTI.out
            rw [HNQ.out] at hTT
            obtain ⟨PA, hPA⟩ : ∃ PA : Addr, (if c = 1 then ⟨ib, io, none⟩ else ⟨ib, io + 1, none⟩ : Addr) = PA := ⟨_, rfl⟩
            have hTP : IntsAt w (some PA) nq q := by
              rw [← hPA]
              by_cases hcc : c = 1
              · obtain rfl : nq = 0 := by omega
                obtain rfl : q = [] := List.length_eq_zero_iff.1 HNQ.out
                exact ⟨rfl, fun i v h => by simp at h⟩
              · rw [if_neg hcc]; exact hTT
            have HPX := Lib.hid hPA
            have wr1x : IntKind.i64.wrap (8 * sz) = 8 * sz := by rw [IntKind.wrap_i64]; omega
            have wr2x : IntKind.i64.wrap ((8 * sz).tdiv n) = z8 := by rw [Int.tdiv_eq_ediv_of_nonneg (by omega), hq, IntKind.wrap_i64]; omega
            have wr3x : IntKind.i64.wrap zi = zi := by rw [IntKind.wrap_i64]; omega
            have wr4x : IntKind.i64.wrap (fr + zi) = fr + zi := by rw [IntKind.wrap_i64]; omega
            have wr5x : IntKind.i64.wrap (dp + 1) = dp + 1 := by rw [IntKind.wrap_i64]; omega
            have HTP := Lib.hid hTP
            clear hTT hTP hPA f80 f81 f82 u80 u81 u82 t0 t1 t2 t3 t4 x0 x3 p0 p1 p2 p3 p4 p5 p6
            refine wp_region_held_drew (S := RwS w G TC XC) (by kernel_rfl) (HS2.out.below (bel_drew (Below.refl _ _))) (fun hHeld => ?_)
            refine wpAnyH_take (i := 0) (oi := ⟨some 69, Op.fieldAddr 38 (Operand.tmp 4) 3, 0, "ref.go:36", #[], none⟩) (v := .pointer (some ⟨w.heap.size, 3, none⟩)) rfl (by kernel_rfl) (by kernel_rfl) (by kernel_rfl) (fun _ _ _ h => h) (Or.inl ⟨by rfl, fun w' hw' => ?_⟩) (by assumption) ?_
            · skip
              go_simp
            simp only [Act.put, List.setIfInBounds_toArray, List.set_cons_zero, List.set_cons_succ]
            refine wpAnyH_take (i := 1) (oi := ⟨some 70, Op.load 35 (Operand.tmp 69), 35, "ref.go:36", #[⟨0, Ground.data⟩], none⟩) (v := .slice (some ⟨xb, xo, none⟩) 1 c1) rfl (by kernel_rfl) (by kernel_rfl) (by kernel_rfl) (fun _ _ _ h => h) (Or.inl ⟨by rfl, fun w' hw' => ?_⟩) (by assumption) ?_
            · have := HT3.out w' hw'
              go_simp
            simp only [Act.put, List.setIfInBounds_toArray, List.set_cons_zero, List.set_cons_succ]
            refine wpAnyH_take (i := 2) (oi := ⟨some 71, Op.indexAddr 35 (Operand.tmp 70) (Operand.const (Value.int IntKind.i64 0)), 0, "ref.go:36", #[⟨1, Ground.data⟩], none⟩) (v := .pointer (some ⟨xb, xo, none⟩)) rfl (by kernel_rfl) (by kernel_rfl) (by kernel_rfl) (fun _ _ _ h => h) (Or.inl ⟨by rfl, fun w' hw' => ?_⟩) (by assumption) ?_
            · skip
              go_simp
            simp only [Act.put, List.setIfInBounds_toArray, List.set_cons_zero, List.set_cons_succ]
            refine wpAnyH_take (i := 3) (oi := ⟨some 72, Op.load 38 (Operand.tmp 71), 38, "ref.go:36", #[⟨2, Ground.data⟩], none⟩) (v := .agg #[s0, s1, s2, s3, s4, s5, s6]) rfl (by kernel_rfl) (by kernel_rfl) (by kernel_rfl) (fun _ _ _ h => h) (Or.inl ⟨by rfl, fun w' hw' => ?_⟩) (by assumption) ?_
            · obtain ⟨p0, p1, p2, p3, p4, p5, p6⟩ := HPS.out w' hw'.bel
              go_simp
            simp only [Act.put, List.setIfInBounds_toArray, List.set_cons_zero, List.set_cons_succ]
            refine wpAnyH_take (i := 4) (oi := ⟨some 73, Op.move (Operand.tmp 1), 2, "ref.go:36", #[], none⟩) (v := .int .i64 fr) rfl (by kernel_rfl) (by kernel_rfl) (by kernel_rfl) (fun _ _ _ h => h) (Or.inl ⟨by rfl, fun w' hw' => ?_⟩) (by assumption) ?_
            · skip
              go_simp
            simp only [Act.put, List.setIfInBounds_toArray, List.set_cons_zero, List.set_cons_succ]
            refine wpAnyH_take (i := 5) (oi := ⟨some 74, Op.fieldAddr 58 (Operand.tmp 11) 0, 0, "ref.go:36", #[], none⟩) (v := .pointer (some ⟨G, 0, none⟩)) rfl (by kernel_rfl) (by kernel_rfl) (by kernel_rfl) (fun _ _ _ h => h) (Or.inl ⟨by rfl, fun w' hw' => ?_⟩) (by assumption) ?_
            · skip
              go_simp
            simp only [Act.put, List.setIfInBounds_toArray, List.set_cons_zero, List.set_cons_succ]
            refine wpAnyH_take (i := 6) (oi := ⟨some 75, Op.load 2 (Operand.tmp 74), 2, "ref.go:36", #[⟨5, Ground.data⟩], none⟩) (v := .int .i64 sz) rfl (by kernel_rfl) (by kernel_rfl) (by kernel_rfl) (fun _ _ _ h => h) (Or.inl ⟨by rfl, fun w' hw' => ?_⟩) (by assumption) ?_
            · have := HX0.out w' hw'
              go_simp
            simp only [Act.put, List.setIfInBounds_toArray, List.set_cons_zero, List.set_cons_succ]
            refine wpAnyH_take (i := 7) (oi := ⟨some 76, Op.binOp BinOp.mul 2 (Operand.const (Value.int IntKind.i64 8)) (Operand.tmp 75) 2, 2, "ref.go:36", #[⟨6, Ground.data⟩], none⟩) (v := .int .i64 (8 * sz)) rfl (by kernel_rfl) (by kernel_rfl) (by kernel_rfl) (fun _ _ _ h => h) (Or.inl ⟨by rfl, fun w' hw' => ?_⟩) (by assumption) ?_
            · skip
              go_simp
            simp only [Act.put, List.setIfInBounds_toArray, List.set_cons_zero, List.set_cons_succ]
            refine wpAnyH_take (i := 8) (oi := ⟨some 77, Op.fieldAddr 38 (Operand.tmp 4) 2, 0, "ref.go:36", #[], none⟩) (v := .pointer (some ⟨w.heap.size, 2, none⟩)) rfl (by kernel_rfl) (by kernel_rfl) (by kernel_rfl) (fun _ _ _ h => h) (Or.inl ⟨by rfl, fun w' hw' => ?_⟩) (by assumption) ?_
            · skip
              go_simp
            simp only [Act.put, List.setIfInBounds_toArray, List.set_cons_zero, List.set_cons_succ]
            refine wpAnyH_take (i := 9) (oi := ⟨some 78, Op.load 2 (Operand.tmp 77), 2, "ref.go:36", #[⟨8, Ground.data⟩], none⟩) (v := .int .i64 n) rfl (by kernel_rfl) (by kernel_rfl) (by kernel_rfl) (fun _ _ _ h => h) (Or.inl ⟨by rfl, fun w' hw' => ?_⟩) (by assumption) ?_
            · have := HT2.out w' hw'
              go_simp
            simp only [Act.put, List.setIfInBounds_toArray, List.set_cons_zero, List.set_cons_succ]
            refine wpAnyH_take (i := 10) (oi := ⟨some 79, Op.binOp BinOp.quo 2 (Operand.tmp 76) (Operand.tmp 78) 2, 2, "ref.go:36", #[⟨7, Ground.data⟩, ⟨9, Ground.data⟩], none⟩) (v := .int .i64 z8) rfl (by kernel_rfl) (by kernel_rfl) (by kernel_rfl) (fun _ _ _ h => h) (Or.inl ⟨by rfl, fun w' hw' => ?_⟩) (by assumption) ?_
            · skip
              go_simp
              omega
            simp only [Act.put, List.setIfInBounds_toArray, List.set_cons_zero, List.set_cons_succ]
            refine wpAnyH_take (i := 11) (oi := ⟨some 80, Op.move (Operand.tmp 14), 3, "ref.go:36", #[], none⟩) (v := .int .i64 i) rfl (by kernel_rfl) (by kernel_rfl) (by kernel_rfl) (fun _ _ _ h => h) (Or.inl ⟨by rfl, fun w' hw' => ?_⟩) (by assumption) ?_
            · skip
              go_simp
            simp only [Act.put, List.setIfInBounds_toArray, List.set_cons_zero, List.set_cons_succ]
            refine wpAnyH_take (i := 12) (oi := ⟨some 81, Op.binOp BinOp.mul 2 (Operand.tmp 79) (Operand.tmp 80) 2, 2, "ref.go:36", #[⟨10, Ground.data⟩, ⟨11, Ground.data⟩], none⟩) (v := .int .i64 zi) rfl (by kernel_rfl) (by kernel_rfl) (by kernel_rfl) (fun _ _ _ h => h) (Or.inl ⟨by rfl, fun w' hw' => ?_⟩) (by assumption) ?_
            · skip
              go_simp
            simp only [Act.put, List.setIfInBounds_toArray, List.set_cons_zero, List.set_cons_succ]
            refine wpAnyH_take (i := 13) (oi := ⟨some 82, Op.binOp BinOp.add 2 (Operand.tmp 73) (Operand.tmp 81) 2, 2, "ref.go:36", #[⟨4, Ground.data⟩, ⟨12, Ground.data⟩], none⟩) (v := .int .i64 (fr + zi)) rfl (by kernel_rfl) (by kernel_rfl) (by kernel_rfl) (fun _ _ _ h => h) (Or.inl ⟨by rfl, fun w' hw' => ?_⟩) (by assumption) ?_
            · skip
              go_simp
            simp only [Act.put, List.setIfInBounds_toArray, List.set_cons_zero, List.set_cons_succ]
            refine wpAnyH_take (i := 14) (oi := ⟨some 83, Op.move (Operand.tmp 2), 3, "ref.go:36", #[], none⟩) (v := .int .i64 dp) rfl (by kernel_rfl) (by kernel_rfl) (by kernel_rfl) (fun _ _ _ h => h) (Or.inl ⟨by rfl, fun w' hw' => ?_⟩) (by assumption) ?_
            · skip
              go_simp
            simp only [Act.put, List.setIfInBounds_toArray, List.set_cons_zero, List.set_cons_succ]
            refine wpAnyH_take (i := 15) (oi := ⟨some 84, Op.binOp BinOp.add 3 (Operand.tmp 83) (Operand.const (Value.int IntKind.i64 1)) 3, 3, "ref.go:36", #[⟨14, Ground.data⟩], none⟩) (v := .int .i64 (dp + 1)) rfl (by kernel_rfl) (by kernel_rfl) (by kernel_rfl) (fun _ _ _ h => h) (Or.inl ⟨by rfl, fun w' hw' => ?_⟩) (by assumption) ?_
            · skip
              go_simp
            simp only [Act.put, List.setIfInBounds_toArray, List.set_cons_zero, List.set_cons_succ]
            refine wpAnyH_take (i := 16) (oi := ⟨some 85, Op.move (Operand.tmp 3), 39, "ref.go:36", #[], none⟩) (v := .slice (some ⟨ib, io, none⟩) (nq + 1) c) rfl (by kernel_rfl) (by kernel_rfl) (by kernel_rfl) (fun _ _ _ h => h) (Or.inl ⟨by rfl, fun w' hw' => ?_⟩) (by assumption) ?_
            · skip
              go_simp
            simp only [Act.put, List.setIfInBounds_toArray, List.set_cons_zero, List.set_cons_succ]
            refine wpAnyH_take (i := 17) (oi := ⟨some 86, Op.slice 39 (Operand.tmp 85) (some (Operand.const (Value.int IntKind.i64 1))) none none, 39, "ref.go:36", #[⟨16, Ground.data⟩], none⟩) (v := .slice (some PA) nq (c - 1)) rfl (by kernel_rfl) (by kernel_rfl) (by kernel_rfl) (fun _ _ _ h => h) (Or.inl ⟨by rfl, fun w' hw' => ?_⟩) (by assumption) ?_
            · have hpx := HPX.out
              by_cases hcc : c = 1
              · rw [if_pos hcc] at hpx; subst hcc; subst hpx; obtain rfl : nq = 0 := by omega
                go_simp
              · rw [if_neg hcc] at hpx; subst hpx
                go_simp
                intro h; omega
            simp only [Act.put, List.setIfInBounds_toArray, List.set_cons_zero, List.set_cons_succ]
            refine wpAnyH_ready (rs := [18]) (by kernel_rfl) (by simp) ?_
            refine AllReadyH.cons (o := ⟨some 87, Op.call { callee := Callee.value (Operand.func 92), args := #[Operand.tmp 72, Operand.tmp 82, Operand.tmp 84, Operand.tmp 86], argTypes := #[38, 2, 3, 39] }, 129, "ref.go:36", #[⟨3, Ground.data⟩, ⟨13, Ground.data⟩, ⟨15, Ground.data⟩, ⟨17, Ground.data⟩], none⟩) rfl (fun K hK => ?_) AllReadyH.nil
            go_simp
            refine (HIH.out _ hHeld.bel _ HTP.out _ (by omega) (by omega)).mono ?_
            rintro e w5 ⟨sp, us, B, k, c', ok, rfl, hus, hul, hres, hb5⟩
            have HS5 := Lib.hid (hHeld.below hb5)
            refine hK.out _ _ HS5.out (fun hHeld5 => ?_)
            clear hK K
            refine wpAnyH_take (i := 19) (oi := ⟨some 88, Op.extract (Operand.tmp 87) 0, 48, "ref.go:36", #[⟨18, Ground.data⟩], none⟩) (v := .agg #[.int .i64 sp.bit, .int .i64 sp.bits, .int .i64 sp.k]) rfl (by kernel_rfl) (by kernel_rfl) (by kernel_rfl) (fun _ _ _ h => h) (Or.inl ⟨by rfl, fun w' hw' => ?_⟩) (by assumption) ?_
            · skip
              go_simp
            simp only [Act.put, List.setIfInBounds_toArray, List.set_cons_zero, List.set_cons_succ]
            refine wpAnyH_take (i := 20) (oi := ⟨some 89, Op.extract (Operand.tmp 87) 1, 128, "ref.go:36", #[⟨18, Ground.data⟩], none⟩) (v := .slice B k c') rfl (by kernel_rfl) (by kernel_rfl) (by kernel_rfl) (fun _ _ _ h => h) (Or.inl ⟨by rfl, fun w' hw' => ?_⟩) (by assumption) ?_
            · skip
              go_simp
            simp only [Act.put, List.setIfInBounds_toArray, List.set_cons_zero, List.set_cons_succ]
            refine wpAnyH_take (i := 21) (oi := ⟨some 90, Op.extract (Operand.tmp 87) 2, 4, "ref.go:36", #[⟨18, Ground.data⟩], none⟩) (v := .bool ok) rfl (by kernel_rfl) (by kernel_rfl) (by kernel_rfl) (fun _ _ _ h => h) (Or.inl ⟨by rfl, fun w' hw' => ?_⟩) (by assumption) ?_
            · skip
              go_simp
            simp only [Act.put, List.setIfInBounds_toArray, List.set_cons_zero, List.set_cons_succ]
            have HSL := HS5
            refine wpAnyH_ready (rs := [22]) (by kernel_rfl) (by simp) ?_
            refine AllReadyH.cons (o := ⟨none, Op.store 48 (Operand.tmp 8) (Operand.tmp 88), 0, "ref.go:36", #[⟨19, Ground.data⟩, ⟨18, Ground.chain⟩, ⟨0, Ground.phase⟩, ⟨1, Ground.phase⟩, ⟨2, Ground.phase⟩, ⟨3, Ground.phase⟩, ⟨4, Ground.phase⟩, ⟨5, Ground.phase⟩, ⟨6, Ground.phase⟩, ⟨7, Ground.phase⟩, ⟨8, Ground.phase⟩, ⟨9, Ground.phase⟩, ⟨10, Ground.phase⟩, ⟨11, Ground.phase⟩, ⟨12, Ground.phase⟩, ⟨13, Ground.phase⟩, ⟨14, Ground.phase⟩, ⟨15, Ground.phase⟩, ⟨16, Ground.phase⟩, ⟨17, Ground.phase⟩, ⟨18, Ground.phase⟩, ⟨19, Ground.phase⟩, ⟨20, Ground.phase⟩, ⟨21, Ground.phase⟩], none⟩) rfl (fun K hK => ?_) AllReadyH.nil
            obtain ⟨z0, z1, z2, hz8'⟩ := HSL.out.g8
            have f80 := hz8'.frozen 0; have f81 := hz8'.frozen 1; have f82 := hz8'.frozen 2
            have u80 := hz8'.at_ (i := 0) rfl; have u81 := hz8'.at_ (i := 1) rfl; have u82 := hz8'.at_ (i := 2) rfl
            go_simp
            refine hK.out _ _ (HSL.out.set8 (.int .i64 sp.bit) (.int .i64 sp.bits) (.int .i64 sp.k)) (fun hHeld8 => ?_)
            clear hK K
            refine wpAnyH_take (i := 23) (oi := ⟨some 9, Op.assign (Operand.tmp 89), 128, "ref.go:36", #[⟨20, Ground.data⟩, ⟨22, Ground.chain⟩, ⟨0, Ground.phase⟩, ⟨1, Ground.phase⟩, ⟨2, Ground.phase⟩, ⟨3, Ground.phase⟩, ⟨4, Ground.phase⟩, ⟨5, Ground.phase⟩, ⟨6, Ground.phase⟩, ⟨7, Ground.phase⟩, ⟨8, Ground.phase⟩, ⟨9, Ground.phase⟩, ⟨10, Ground.phase⟩, ⟨11, Ground.phase⟩, ⟨12, Ground.phase⟩, ⟨13, Ground.phase⟩, ⟨14, Ground.phase⟩, ⟨15, Ground.phase⟩, ⟨16, Ground.phase⟩, ⟨17, Ground.phase⟩, ⟨18, Ground.phase⟩, ⟨19, Ground.phase⟩, ⟨20, Ground.phase⟩, ⟨21, Ground.phase⟩, ⟨22, Ground.phase⟩], none⟩) (v := .slice B k c') rfl (by kernel_rfl) (by kernel_rfl) (by kernel_rfl) (fun _ _ _ h => h) (Or.inl ⟨by rfl, fun w' hw' => ?_⟩) (by assumption) ?_
            · skip
              go_simp
            simp only [Act.put, List.setIfInBounds_toArray, List.set_cons_zero, List.set_cons_succ]
            refine wpAnyH_take (i := 24) (oi := ⟨some 10, Op.assign (Operand.tmp 90), 4, "ref.go:36", #[⟨21, Ground.data⟩, ⟨23, Ground.chain⟩, ⟨0, Ground.phase⟩, ⟨1, Ground.phase⟩, ⟨2, Ground.phase⟩, ⟨3, Ground.phase⟩, ⟨4, Ground.phase⟩, ⟨5, Ground.phase⟩, ⟨6, Ground.phase⟩, ⟨7, Ground.phase⟩, ⟨8, Ground.phase⟩, ⟨9, Ground.phase⟩, ⟨10, Ground.phase⟩, ⟨11, Ground.phase⟩, ⟨12, Ground.phase⟩, ⟨13, Ground.phase⟩, ⟨14, Ground.phase⟩, ⟨15, Ground.phase⟩, ⟨16, Ground.phase⟩, ⟨17, Ground.phase⟩, ⟨18, Ground.phase⟩, ⟨19, Ground.phase⟩, ⟨20, Ground.phase⟩, ⟨21, Ground.phase⟩, ⟨22, Ground.phase⟩, ⟨23, Ground.phase⟩], none⟩) (v := .bool ok) rfl (by kernel_rfl) (by kernel_rfl) (by kernel_rfl) (fun _ _ _ h => h) (Or.inl ⟨by rfl, fun w' hw' => ?_⟩) (by assumption) ?_
            · skip
              go_simp
            simp only [Act.put, List.setIfInBounds_toArray, List.set_cons_zero, List.set_cons_succ]
            refine wpAnyH_done (by kernel_rfl) ?_ _
            go_wp2_with fail
            have hlt : w.heap.size + 1 < W2.drew.heap.size := by show w.heap.size + 1 < W2.heap.size; omega
            exact bodyPost_ret (results92 rfl rfl rfl (fin3 hz8' _ _ _)) rfl ⟨sp, us, B, k, c', ok, rfl, (((hus.set_ hlt 0 _).set_ hlt 1 _).set_ hlt 2 _).mono (by omega), by omega, by rw [HWE.out]; exact hres, fin3b HS5.out.bel (by omega) _ _ _⟩
        · have h45 : sh = 4 ∨ sh = 5 := by omega
          have H45 := Lib.hid (show t.sh = 4 ∨ t.sh = 5 by rw [HSH.out]; exact h45)
          have hd3 : (sh == 3) = false := by simpa using h3
          have LR := liesR HE.out.1 H45.out
          have hmL : memL (d + 1) t = b.l := by unfold memL; rw [if_pos ⟨HE.out.1, H45.out⟩, HE.out.2.1]
          rw [hmL, HE.out.2.2.1, HSZ.out, HBL.out] at LR
          have hlen := LR.len
          have HALL := Lib.hid LR.all
          have HLL := Lib.hid (show (boxD (d + 1) t).l = bl by rw [HE.out.2.1, HBL.out])
          obtain ⟨nf, hnf⟩ : ∃ x, t.fs.length = x := ⟨_, rfl⟩
          rw [hnf] at t4 hlen
          rw [hlen] at x3 ⊢
          have HNF := Lib.hid hnf
          clear LR hmL hnf
          by_cases hfar : (nf : Int) ≤ i
          · have HEQ := Lib.hid (walk_cmp_far (fr := fr) (dp := dp) (i := i) (q := q) H45.out (by omega) (by rw [HNF.out]; omega))
            have hin' : decide ((nf : Int) ≤ i) = true := decide_eq_true hfar
            go_wp2_with fail
            exact bodyPost_ret (results92 rfl rfl rfl (fin3 h81 _ _ _)) rfl (RwP.no (by omega) HEQ.out (fin3b HB2.out (by omega) _ _ _))
          · have hin' : decide ((nf : Int) ≤ i) = false := decide_eq_false hfar
            obtain ⟨j, rfl⟩ : ∃ j : Nat, i = (j : Int) := ⟨i.toNat, by omega⟩
            have kj1 : (0 : Int) ≤ (j : Int) := Int.natCast_nonneg _
            have kj2 : (j : Int) < (nf : Int) := by omega
            obtain ⟨f, hf⟩ : ∃ f, t.fs[j]? = some f := ⟨_, List.getElem?_eq_getElem (by have := HNF.out; omega)⟩
            obtain ⟨x, hx⟩ : ∃ x, bl[j]? = some x := ⟨_, List.getElem?_eq_getElem (by omega)⟩
            have HLEN := Lib.hid hlen
            clear hlen
            obtain ⟨xb0, xb1, xb2, -, -, pl5, -, bq, hlies⟩ := HALL.out j f x hf hx
            have HWC := Lib.hid (walk_cmp (fr := fr) (dp := dp) (i := (j : Int)) (q := q) H45.out kj1 (by rw [Int.toNat_natCast]; exact hf) (by rw [HLL.out, Int.toNat_natCast]; exact hx))
            obtain ⟨xb, xo, fn, C1, C2, cn1, cn2, cc1, cc2, fpk, fal, rfl, -, -, hfty, p0, p1, p2, p3, p4, p5, p6, p7, p8⟩ := HFS.out.at_ hf
            obtain ⟨yb, yo, rfl, q0, q1, q2⟩ := HX2.out.2 j x hx
            have HQ0 := Lib.hid q0; have HQ1 := Lib.hid q1; have HQ2 := Lib.hid q2
            have HP := Lib.hid (And.intro p0 (And.intro p1 (And.intro p2 (And.intro p3 (And.intro p4 (And.intro p5 (And.intro p6 (And.intro p7 p8))))))))
            have HLI := Lib.hid hlies
            have HPM := Lib.hid (plain_fld HPL.out H45.out (List.mem_of_getElem? hf))
            have HFT := Lib.hid hfty
            obtain ⟨fb, hfb⟩ : ∃ x, f.bits = x := ⟨_, rfl⟩
            have HFB := Lib.hid hfb
            rw [hfb] at HWC
            have HTI := Lib.hid HPA.out.tail
            clear hlies hfty hx hf hfb p0 p1 p2 p3 p4 p5 p6 p7 p8 q0 q1 q2
            obtain ⟨own, hown⟩ : ∃ o : List Stp, (if t.sh = 5 then [(⟨fr / 8, bsz (d + 1) t, dp, (j : Int)⟩ : Stp)] else []) = o := ⟨_, rfl⟩
            rw [hown] at HWC
            have HOWN := Lib.hid (show own = if sh = 5 then [⟨fr / 8, sz, dp, (j : Int)⟩] else [] by rw [← hown, HSH.out, HBS.out])
            clear hown
            clear f80 f81 f82 u80 u81 u82
            go_upto_if 99 with (fail)
            go_cut [15, 99] from 100 (fun s15 s99 wx => ∃ (OA : Option Addr) (oc : Nat), s15 = .slice OA own.length oc ∧ Below W2.heap.size W2 wx ∧ wx.ownsRow (G + 1) 133 4 (.slice OA own.length oc) own.length (stpC own))
            case first =>
              rcases h45 with h4 | h5
              · have HO := Lib.hid (show own = [] by rw [HOWN.out, h4]; rfl)
                have q5 : (sh == 5) = false := by rw [h4]; rfl
                clear h4
                go_wp2_with fail
                go_meet
                case rel => rw [HO.out]; exact ⟨none, 0, rfl, Below.refl _ _, World.ownsRow_nil _ _ _ _⟩
              · have HO := Lib.hid (show own = [⟨fr / 8, sz, dp, (j : Int)⟩] by rw [HOWN.out, h5]; rfl)
                have q5 : (sh == 5) = true := by rw [h5]; rfl
                clear h5
                go_wp2_with fail
                go_meet
                case rel => rw [HO.out]; exact ⟨some ⟨W2.heap.size, 0, none⟩, 1, rfl, bel_alloc (Below.refl _ _) _, World.ownsRow_lit W2 #[.int .i64 (fr / 8), .int .i64 sz, .int .i64 dp, .int .i64 (j : Int)] 1 (by omega) (by unfold maxLen; omega) rfl⟩
            case rest =>
              obtain ⟨OA, oc, rfl, hb3, hown⟩ := hcut
              obtain ⟨no, hno⟩ : ∃ n, own.length = n := ⟨_, rfl⟩
              have hno1 : no ≤ 1 := by rw [← hno, HOWN.out]; split <;> simp
              have HOW := Lib.hid hown
              have HNO := Lib.hid hno
              rw [hno]
              clear hown hno t0 t1 t2 t3 t4 x0 x3
              obtain ⟨p0, p1, p2, p3, p4, p5, p6, p7, p8⟩ := HP.out
              rw [HFB.out] at p8
              have hS3 := HS2.out.below hb3
              have HB3 := Lib.hid (bel_then HB2.out hb3)
              replace p0 := bel_cell HB3.out p0; replace p1 := bel_cell HB3.out p1; replace p2 := bel_cell HB3.out p2; replace p3 := bel_cell HB3.out p3; replace p4 := bel_cell HB3.out p4; replace p5 := bel_cell HB3.out p5; replace p6 := bel_cell HB3.out p6; replace p7 := bel_cell HB3.out p7; replace p8 := bel_cell HB3.out p8
              have q0 := bel_cell hb3 HQ0.out; have q1 := bel_cell hb3 HQ1.out; have q2 := bel_cell hb3 HQ2.out
              have t4 := HT4.out _ hS3
              rw [HNF.out] at t4
              have x3 := HX3.out _ hS3
              rw [HLEN.out] at x3
              obtain ⟨xbt, xbs, xk⟩ := x
              simp only at q0 q1 q2 xb0 xb1 xb2 HWC
              have HS3 := Lib.hid hS3
              obtain ⟨fsh, hfsh⟩ : ∃ y, tsh d f.t = y := ⟨_, rfl⟩
              obtain ⟨fk, hfk⟩ : ∃ y, tk d f.t = y := ⟨_, rfl⟩
              rw [hfsh] at p1 HFT
              rw [hfk] at p2 HFT
              obtain ⟨nm, hnm⟩ : ∃ y, f.nm = y := ⟨_, rfl⟩
              rw [hnm] at p0
              clear hfsh hfk hnm hb3 hS3
              go_upto_region 20 with (fail)
              have h16 := Bk.new wc 56 #[.string nm, .int .i64 fsh, .int .i64 fk, .int .i64 fn, .slice C1 cn1 cc1, .slice C2 cn2 cc2, .bool fpk, .int .i64 fal, .int .i64 fb]
              have hb4 := bel_alloc (Below.refl _ wc) (.cells #[.string nm, .int .i64 fsh, .int .i64 fk, .int .i64 fn, .slice C1 cn1 cc1, .slice C2 cn2 cc2, .bool fpk, .int .i64 fal, .int .i64 fb] 56)
              have ho4 := HOW.out.alloc (.cells #[.string nm, .int .i64 fsh, .int .i64 fk, .int .i64 fn, .slice C1 cn1 cc1, .slice C2 cn2 cc2, .bool fpk, .int .i64 fal, .int .i64 fb] 56)
              have hG3 := HS3.out.g11.lt
              generalize World.alloc wc _ = W4 at h16 hb4 ho4 ⊢
              obtain ⟨G16, hG16⟩ : ∃ g, wc.heap.size = g := ⟨_, rfl⟩
              rw [hG16] at h16 hG3 hb4 ⊢
              have HS4 := Lib.hid (HS3.out.below (by rw [hG16]; exact hb4))
              replace q0 := bel_cell (by rw [hG16]; exact hb4) q0; replace q1 := bel_cell (by rw [hG16]; exact hb4) q1; replace q2 := bel_cell (by rw [hG16]; exact hb4) q2
              replace x3 := bel_cell (by rw [hG16]; exact hb4) x3
              clear p0 p1 p2 p3 p4 p5 p6 p7 p8 t4 hG16 hb4
              go_upto_region 21 with (fail)
              have h17 := Bk.new W4 48 #[.int .i64 xbt, .int .i64 xbs, .int .i64 xk]
              have h165 := h16.alloc (.cells #[.int .i64 xbt, .int .i64 xbs, .int .i64 xk] 48)
              have ho5 := ho4.alloc (.cells #[.int .i64 xbt, .int .i64 xbs, .int .i64 xk] 48)
              have HS5 := Lib.hid (HS4.out.below (bel_alloc (Below.refl _ W4) (.cells #[.int .i64 xbt, .int .i64 xbs, .int .i64 xk] 48)))
              obtain ⟨G17, hG17⟩ : ∃ g, W4.heap.size = g := ⟨_, rfl⟩
              have hg67 : G16 < G17 := by rw [← hG17]; exact h16.lt
              have hon := (ownT ho4)
              rw [hG17] at h17 hon ⊢
              generalize World.alloc W4 _ = W5 at h17 h165 ho5 HS5 ⊢
              clear h16 ho4 q0 q1 q2 x3 hG17
              have y0 := h17.at_ (i := 0) rfl
              have fy0 := h17.frozen 0
              obtain ⟨f2, hf2⟩ : ∃ y, xbt + fr = y := ⟨_, rfl⟩
              have y4 : 0 ≤ f2 ∧ f2 + xbs ≤ fr + 8 * sz := by omega
              go_upto_region 22 with (fail)
              have h17s := h17.set_ 0 (.int .i64 f2)
              simp only [List.setIfInBounds_toArray, List.set_cons_zero] at h17s
              have h16s := h165.far (p := ⟨G17, 0, none⟩) (by dsimp only; omega) (.int .i64 f2)
              have HS6 := Lib.hid (HS5.out.farG (g := G17) (by omega) 0 (.int .i64 f2))
              have HOW6 := Lib.hid (ownsRow_setCell_other ho5 (a := ⟨G17, 0, none⟩) (fun e => by have := (hon _ e).2; dsimp only at this; omega) (.int .i64 f2))
              have hgw6 : G17 < (W5.setCell ⟨G17, 0, none⟩ (.int .i64 f2)).heap.size := h17s.lt
              generalize World.setCell W5 _ _ = W6 at h17s h16s HS6 HOW6 hgw6 ⊢
              have hf2' : fr + xbt = f2 := by omega
              rw [hf2'] at HWC
              have HF2 := Lib.hid hf2
              have HON := Lib.hid (show ∀ g, (Value.slice OA no oc).ownBlock = some g → G + 1 ≤ g ∧ g < G17 from fun g e => hon g (by rw [← e]; cases OA <;> rfl))
              clear y0 fy0 h17 h165 ho5 HS5 hf2 hf2' hon
              have HSF := Lib.hid (show StpsF (G + 1) W6 OA no own by
                have := HOW6.out
                have h : StpsF (G + 1) W6 OA own.length own := ⟨stps_of_row' this rfl, row_fresh this (Nat.le_refl _)⟩
                rwa [HNO.out] at h)
              have y0 := h17s.at_ (i := 0) rfl; have y1 := h17s.at_ (i := 1) rfl; have y2 := h17s.at_ (i := 2) rfl
              have z8 := h16s.at_ (i := 8) rfl
              have hlt : w.heap.size + 1 < G + 1 := by omega
              by_cases hb0 : 0 ≤ fb
              · have hb0' : decide (0 ≤ fb) = true := decide_eq_true hb0
                obtain ⟨v0', v1', v2', h8⟩ := HS6.out.g8
                have f80 := h8.frozen 0; have f81 := h8.frozen 1; have f82 := h8.frozen 2
                have u80 := h8.at_ (i := 0) rfl; have u81 := h8.at_ (i := 1) rfl; have u82 := h8.at_ (i := 2) rfl
                by_cases hpos : 0 < fb
                · have hpos' : decide (0 < fb) = true := decide_eq_true hpos
                  by_cases hq0 : nq = 0
                  · subst hq0
                    obtain rfl : q = [] := List.length_eq_zero_iff.1 HNQ.out
                    have HEQ := Lib.hid (show walkS (d + 1) t fr dp [(j : Int)] = some (⟨f2, xbs, xk⟩, own) by rw [HWC.out, if_neg (by omega), if_pos hpos])
                    go_wp2_with fail
                    exact bodyPost_ret (results92 rfl rfl rfl (fin3 h8 _ _ _)) rfl ⟨⟨f2, xbs, xk⟩, own, OA, no, oc, true, rfl, (((HSF.out.set_ hlt 0 _).set_ hlt 1 _).set_ hlt 2 _).mono (by omega), by rw [HNO.out]; omega, .inl ⟨rfl, HEQ.out⟩, fin3b HS6.out.bel (by omega) _ _ _⟩
                  · have HEQ := Lib.hid (show walkS (d + 1) t fr dp ((j : Int) :: q) = none by
                      rw [HWC.out, if_neg (by omega), if_pos hpos]
                      cases q with
                      | nil => exact absurd HNQ.out.symm hq0
                      | cons a l => rfl)
                    have e1 : ((nq : Int) + 1 == 1) = false := by simp; omega
                    have e2 : (((nq + 1 : Nat) : Int) == 1) = false := by simp; omega
                    go_wp2_with fail
                    exact bodyPost_ret (results92 rfl rfl rfl (fin3 h8 _ _ _)) rfl ⟨⟨f2, xbs, xk⟩, own, OA, no, oc, false, rfl, (((HSF.out.set_ hlt 0 _).set_ hlt 1 _).set_ hlt 2 _).mono (by omega), by rw [HNO.out]; omega, .inr ⟨rfl, HEQ.out⟩, fin3b HS6.out.bel (by omega) _ _ _⟩
                · obtain rfl : fb = 0 := by omega
                  have HEQ := Lib.hid (show walkS (d + 1) t fr dp ((j : Int) :: q) = none by rw [HWC.out, if_pos rfl])
                  go_wp2_with fail
                  exact bodyPost_ret (results92 rfl rfl rfl (fin3 h8 _ _ _)) rfl ⟨⟨f2, xbs, xk⟩, own, OA, no, oc, false, rfl, (((HSF.out.set_ hlt 0 _).set_ hlt 1 _).set_ hlt 2 _).mono (by omega), by rw [HNO.out]; omega, .inr ⟨rfl, HEQ.out⟩, fin3b HS6.out.bel (by omega) _ _ _⟩
              · have hb0' : decide (0 ≤ fb) = false := decide_eq_false hb0
                have hlx := HLI.out
                have e1 := hlx.bits
                rw [if_pos (by rw [HFB.out]; omega)] at e1
                simp only at e1
                have hbq := hlx.bx
                have HBQ := Lib.hid hbq
                have HE1 := Lib.hid e1
                have HIH := Lib.hid (fun w' (hb' : Below w.heap.size w w') (B : Option Addr) (hB : IntsAt w B nq q) k2 (h1 : nq ≤ k2) (h2 : k2 ≤ 9223372036854775807) => show Calls Try.prog 92 #[.agg #[.int .i64 fsh, .int .i64 fk, .int .i64 fn, .slice C1 cn1 cc1, .slice C2 cn2 cc2, .bool fpk, .int .i64 fal], .int .i64 f2, .int .i64 (dp + 1), .slice B nq k2] w' (RwP d f.t f2 (dp + 1) q (kk - 1) w') from by
                  have := IH f.t _ _ _ _ _ _ _ B q k2 f2 (dp + 1) (kk - 1) bq w' HPM.out (by omega) HBQ.out (HFT.out.below hb') (by rw [HNQ.out]; exact hB.below hb') (by rw [HNQ.out]; exact h1) h2 (by omega) (by have := HE1.out; omega) (by omega) (by rw [HNQ.out]; omega)
                  rwa [HNQ.out] at this)
                have H16 := Lib.hid h16s
                have H17 := Lib.hid h17s
                have wr5x : IntKind.i64.wrap (dp + 1) = dp + 1 := by rw [IntKind.wrap_i64]; omega
                have hTT := HTI.out
                rw [HNQ.out] at hTT
                clear hlx e1 hbq h16s h17s y0 y1 y2
                go_upto_region 24 with (fail)
                clear z8
                obtain ⟨PA, hPA⟩ : ∃ PA : Addr, (if c = 1 then ⟨ib, io, none⟩ else ⟨ib, io + 1, none⟩ : Addr) = PA := ⟨_, rfl⟩
                have hTP : IntsAt w (some PA) nq q := by
                  rw [← hPA]
                  by_cases hcc : c = 1
                  · obtain rfl : nq = 0 := by omega
                    obtain rfl : q = [] := List.length_eq_zero_iff.1 HNQ.out
                    exact ⟨rfl, fun i v h => by simp at h⟩
                  · rw [if_neg hcc]; exact hTT
                have HPX := Lib.hid hPA
                have HTP := Lib.hid hTP
                clear hTT hTP hPA
                refine wp_region_held_drew (S := fun W' => Below W6.heap.size W6 W') (by kernel_rfl) (bel_drew (Below.refl _ _)) (fun hHeld => ?_)
                refine wpAnyH_take (i := 0) (oi := ⟨some 137, Op.fieldAddr 56 (Operand.tmp 16) 1, 0, "ref.go:51", #[], none⟩) (v := .pointer (some ⟨G16, 1, none⟩)) rfl (by kernel_rfl) (by kernel_rfl) (by kernel_rfl) (fun _ _ _ h => h) (Or.inl ⟨by rfl, fun w' hw' => ?_⟩) (by assumption) ?_
                · skip
                  go_simp
                simp only [Act.put, List.setIfInBounds_toArray, List.set_cons_zero, List.set_cons_succ]
                refine wpAnyH_take (i := 1) (oi := ⟨some 138, Op.load 38 (Operand.tmp 137), 38, "ref.go:51", #[⟨0, Ground.data⟩], none⟩) (v := .agg #[.int .i64 fsh, .int .i64 fk, .int .i64 fn, .slice C1 cn1 cc1, .slice C2 cn2 cc2, .bool fpk, .int .i64 fal]) rfl (by kernel_rfl) (by kernel_rfl) (by kernel_rfl) (fun _ _ _ h => h) (Or.inl ⟨by rfl, fun w' hw' => ?_⟩) (by assumption) ?_
                · have hk16 := H16.out.below hw' H16.out.lt
                  have r1 := hk16.at_ (i := 1) rfl; have r2 := hk16.at_ (i := 2) rfl; have r3 := hk16.at_ (i := 3) rfl; have r4 := hk16.at_ (i := 4) rfl; have r5 := hk16.at_ (i := 5) rfl; have r6 := hk16.at_ (i := 6) rfl; have r7 := hk16.at_ (i := 7) rfl
                  go_simp
                simp only [Act.put, List.setIfInBounds_toArray, List.set_cons_zero, List.set_cons_succ]
                refine wpAnyH_take (i := 2) (oi := ⟨some 139, Op.fieldAddr 48 (Operand.tmp 17) 0, 0, "ref.go:51", #[], none⟩) (v := .pointer (some ⟨G17, 0, none⟩)) rfl (by kernel_rfl) (by kernel_rfl) (by kernel_rfl) (fun _ _ _ h => h) (Or.inl ⟨by rfl, fun w' hw' => ?_⟩) (by assumption) ?_
                · skip
                  go_simp
                simp only [Act.put, List.setIfInBounds_toArray, List.set_cons_zero, List.set_cons_succ]
                refine wpAnyH_take (i := 3) (oi := ⟨some 140, Op.load 2 (Operand.tmp 139), 2, "ref.go:51", #[⟨2, Ground.data⟩], none⟩) (v := .int .i64 f2) rfl (by kernel_rfl) (by kernel_rfl) (by kernel_rfl) (fun _ _ _ h => h) (Or.inl ⟨by rfl, fun w' hw' => ?_⟩) (by assumption) ?_
                · have r0 := (H17.out.below hw' H17.out.lt).at_ (i := 0) rfl
                  go_simp
                simp only [Act.put, List.setIfInBounds_toArray, List.set_cons_zero, List.set_cons_succ]
                refine wpAnyH_take (i := 4) (oi := ⟨some 141, Op.move (Operand.tmp 2), 3, "ref.go:51", #[], none⟩) (v := .int .i64 dp) rfl (by kernel_rfl) (by kernel_rfl) (by kernel_rfl) (fun _ _ _ h => h) (Or.inl ⟨by rfl, fun w' hw' => ?_⟩) (by assumption) ?_
                · skip
                  go_simp
                simp only [Act.put, List.setIfInBounds_toArray, List.set_cons_zero, List.set_cons_succ]
                refine wpAnyH_take (i := 5) (oi := ⟨some 142, Op.binOp BinOp.add 3 (Operand.tmp 141) (Operand.const (Value.int IntKind.i64 1)) 3, 3, "ref.go:51", #[⟨4, Ground.data⟩], none⟩) (v := .int .i64 (dp + 1)) rfl (by kernel_rfl) (by kernel_rfl) (by kernel_rfl) (fun _ _ _ h => h) (Or.inl ⟨by rfl, fun w' hw' => ?_⟩) (by assumption) ?_
                · skip
                  go_simp
                simp only [Act.put, List.setIfInBounds_toArray, List.set_cons_zero, List.set_cons_succ]
                refine wpAnyH_take (i := 6) (oi := ⟨some 143, Op.move (Operand.tmp 3), 39, "ref.go:51", #[], none⟩) (v := .slice (some ⟨ib, io, none⟩) (nq + 1) c) rfl (by kernel_rfl) (by kernel_rfl) (by kernel_rfl) (fun _ _ _ h => h) (Or.inl ⟨by rfl, fun w' hw' => ?_⟩) (by assumption) ?_
                · skip
                  go_simp
                simp only [Act.put, List.setIfInBounds_toArray, List.set_cons_zero, List.set_cons_succ]
                refine wpAnyH_take (i := 7) (oi := ⟨some 144, Op.slice 39 (Operand.tmp 143) (some (Operand.const (Value.int IntKind.i64 1))) none none, 39, "ref.go:51", #[⟨6, Ground.data⟩], none⟩) (v := .slice (some PA) nq (c - 1)) rfl (by kernel_rfl) (by kernel_rfl) (by kernel_rfl) (fun _ _ _ h => h) (Or.inl ⟨by rfl, fun w' hw' => ?_⟩) (by assumption) ?_
                · have hpx := HPX.out
                  by_cases hcc : c = 1
                  · rw [if_pos hcc] at hpx; subst hcc; subst hpx; obtain rfl : nq = 0 := by omega
                    go_simp
                  · rw [if_neg hcc] at hpx; subst hpx
                    go_simp
                    intro h; omega
                simp only [Act.put, List.setIfInBounds_toArray, List.set_cons_zero, List.set_cons_succ]
                have hbd : Below W6.heap.size W6 W6.drew := bel_drew (Below.refl _ _)
                have hgwd : G17 < W6.drew.heap.size := hgw6
                generalize W6.drew = Wd at hHeld hbd hgwd ⊢
                clear hHeld
                refine wpAnyH_ready (rs := [8, 13]) (by kernel_rfl) (by simp) ?_
                refine AllReadyH.cons (o := ⟨some 145, Op.call { callee := Callee.value (Operand.func 92), args := #[Operand.tmp 138, Operand.tmp 140, Operand.tmp 142, Operand.tmp 144], argTypes := #[38, 2, 3, 39] }, 129, "ref.go:51", #[⟨1, Ground.data⟩, ⟨3, Ground.data⟩, ⟨5, Ground.data⟩, ⟨7, Ground.data⟩], none⟩) rfl (fun K hK => ?_) ?_
                · go_simp
                  refine (HIH.out Wd (bel_then HS6.out.bel hbd) _ (HTP.out) _ (by omega) (by omega)).mono ?_
                  rintro e w7 ⟨sp, us, B, k, c', ok, rfl, hus, hul, hres, hb7⟩
                  have HRES := Lib.hid hres
                  have hbc := bel_then hbd hb7
                  refine hK.out _ _ hbc (fun hHeld7 => ?_)
                  clear hK K hres
                  refine wpAnyH_take (i := 9) (oi := ⟨some 136, Op.move (Operand.tmp 145), 129, "ref.go:51", #[⟨8, Ground.data⟩], none⟩) (v := .tuple #[.agg #[.int .i64 sp.bit, .int .i64 sp.bits, .int .i64 sp.k], .slice B k c', .bool ok]) rfl (by kernel_rfl) (by kernel_rfl) (by kernel_rfl) (fun _ _ _ h => h) (Or.inl ⟨by rfl, fun w' hw' => ?_⟩) (by assumption) ?_
                  · skip
                    go_simp
                  simp only [Act.put, List.setIfInBounds_toArray, List.set_cons_zero, List.set_cons_succ]
                  refine wpAnyH_take (i := 10) (oi := ⟨some 146, Op.extract (Operand.tmp 136) 0, 48, "ref.go:51", #[⟨9, Ground.data⟩], none⟩) (v := .agg #[.int .i64 sp.bit, .int .i64 sp.bits, .int .i64 sp.k]) rfl (by kernel_rfl) (by kernel_rfl) (by kernel_rfl) (fun _ _ _ h => h) (Or.inl ⟨by rfl, fun w' hw' => ?_⟩) (by assumption) ?_
                  · skip
                    go_simp
                  simp only [Act.put, List.setIfInBounds_toArray, List.set_cons_zero, List.set_cons_succ]
                  refine wpAnyH_take (i := 11) (oi := ⟨some 147, Op.extract (Operand.tmp 136) 1, 128, "ref.go:51", #[⟨9, Ground.data⟩, { on := 14, ground := Ground.gcOnly Departure.lateStores }], none⟩) (v := .slice B k c') rfl (by kernel_rfl) (by kernel_rfl) (by kernel_rfl) (fun _ _ _ h => h) (Or.inl ⟨by rfl, fun w' hw' => ?_⟩) (by assumption) ?_
                  · skip
                    go_simp
                  simp only [Act.put, List.setIfInBounds_toArray, List.set_cons_zero, List.set_cons_succ]
                  refine wpAnyH_take (i := 12) (oi := ⟨some 148, Op.extract (Operand.tmp 136) 2, 4, "ref.go:51", #[⟨9, Ground.data⟩, { on := 15, ground := Ground.gcOnly Departure.lateStores }], none⟩) (v := .bool ok) rfl (by kernel_rfl) (by kernel_rfl) (by kernel_rfl) (fun _ _ _ h => h) (Or.inl ⟨by rfl, fun w' hw' => ?_⟩) (by assumption) ?_
                  · skip
                    go_simp
                  simp only [Act.put, List.setIfInBounds_toArray, List.set_cons_zero, List.set_cons_succ]
                  refine wpAnyH_ready (rs := [13]) (by kernel_rfl) (by simp) ?_
                  refine AllReadyH.cons (o := ⟨some 18, Op.alloc 48, 0, "ref.go:51", #[], none⟩) rfl (fun K hK => ?_) AllReadyH.nil
                  go_simp
                  have hbw := bel_alloc hbc (.cells #[.int .i64 0, .int .i64 0, .int .i64 0] 48)
                  refine hK.out _ _ hbw (fun hHeld8 => ?_)
                  clear hK K
                  have h18 := Bk.new w7 48 #[.int .i64 0, .int .i64 0, .int .i64 0]
                  have hsz7 := hbc.size
                  have hsa := hus.1.below (bel_set (bel_set (bel_set (bel_alloc (Below.refl _ w7) (.cells #[.int .i64 0, .int .i64 0, .int .i64 0] 48)) (p := ⟨w7.heap.size, 0, none⟩) (Nat.le_refl _) (.int .i64 sp.bit)) (p := ⟨w7.heap.size, 1, none⟩) (Nat.le_refl _) (.int .i64 sp.bits)) (p := ⟨w7.heap.size, 2, none⟩) (Nat.le_refl _) (.int .i64 sp.k))
                  generalize hgg : w7.heap.size = G18 at h18 hsz7 hsa ⊢
                  generalize World.alloc w7 _ = W8 at h18 hsa hbw hHeld8 ⊢
                  refine wpAnyH_ready (rs := [14]) (by kernel_rfl) (by simp) ?_
                  refine AllReadyH.cons (o := ⟨none, Op.store 48 (Operand.tmp 18) (Operand.tmp 146), 0, "ref.go:51", #[⟨13, Ground.data⟩, ⟨10, Ground.data⟩, ⟨8, Ground.chain⟩, ⟨0, Ground.phase⟩, ⟨1, Ground.phase⟩, ⟨2, Ground.phase⟩, ⟨3, Ground.phase⟩, ⟨4, Ground.phase⟩, ⟨5, Ground.phase⟩, ⟨6, Ground.phase⟩, ⟨7, Ground.phase⟩, ⟨8, Ground.phase⟩, ⟨9, Ground.phase⟩, ⟨10, Ground.phase⟩, { on := 11, ground := Ground.textOnly Departure.lateStores }, { on := 12, ground := Ground.textOnly Departure.lateStores }, ⟨13, Ground.phase⟩], none⟩) rfl (fun K hK => ?_) AllReadyH.nil
                  have f80 := h18.frozen 0; have f81 := h18.frozen 1; have f82 := h18.frozen 2
                  have u80 := h18.at_ (i := 0) rfl; have u81 := h18.at_ (i := 1) rfl; have u82 := h18.at_ (i := 2) rfl
                  go_simp
                  refine hK.out _ _ (bel_set (bel_set (bel_set hbw (by dsimp only; omega) _) (by dsimp only; omega) _) (by dsimp only; omega) _) (fun hHeld8 => ?_)
                  clear hK K f80 f81 f82 u80 u81 u82
                  refine wpAnyH_take (i := 15) (oi := ⟨some 19, Op.assign (Operand.tmp 147), 128, "ref.go:51", #[⟨11, Ground.data⟩, ⟨14, Ground.chain⟩, ⟨0, Ground.phase⟩, ⟨1, Ground.phase⟩, ⟨2, Ground.phase⟩, ⟨3, Ground.phase⟩, ⟨4, Ground.phase⟩, ⟨5, Ground.phase⟩, ⟨6, Ground.phase⟩, ⟨7, Ground.phase⟩, ⟨8, Ground.phase⟩, ⟨9, Ground.phase⟩, ⟨10, Ground.phase⟩, ⟨11, Ground.phase⟩, { on := 12, ground := Ground.textOnly Departure.lateStores }, ⟨13, Ground.phase⟩, ⟨14, Ground.phase⟩], none⟩) (v := .slice B k c') rfl (by kernel_rfl) (by kernel_rfl) (by kernel_rfl) (fun _ _ _ h => h) (Or.inl ⟨by rfl, fun w' hw' => ?_⟩) (by assumption) ?_
                  · skip
                    go_simp
                  simp only [Act.put, List.setIfInBounds_toArray, List.set_cons_zero, List.set_cons_succ]
                  refine wpAnyH_take (i := 16) (oi := ⟨some 20, Op.assign (Operand.tmp 148), 4, "ref.go:51", #[⟨12, Ground.data⟩, ⟨15, Ground.chain⟩, ⟨0, Ground.phase⟩, ⟨1, Ground.phase⟩, ⟨2, Ground.phase⟩, ⟨3, Ground.phase⟩, ⟨4, Ground.phase⟩, ⟨5, Ground.phase⟩, ⟨6, Ground.phase⟩, ⟨7, Ground.phase⟩, ⟨8, Ground.phase⟩, ⟨9, Ground.phase⟩, ⟨10, Ground.phase⟩, ⟨11, Ground.phase⟩, ⟨12, Ground.phase⟩, ⟨13, Ground.phase⟩, ⟨14, Ground.phase⟩, ⟨15, Ground.phase⟩], none⟩) (v := .bool ok) rfl (by kernel_rfl) (by kernel_rfl) (by kernel_rfl) (fun _ _ _ h => h) (Or.inl ⟨by rfl, fun w' hw' => ?_⟩) (by assumption) ?_
                  · skip
                    go_simp
                  simp only [Act.put, List.setIfInBounds_toArray, List.set_cons_zero, List.set_cons_succ]
                  refine wpAnyH_done (by kernel_rfl) ?_ _
                  have h18s := fin3 h18 (.int .i64 sp.bit) (.int .i64 sp.bits) (.int .i64 sp.k)
                  have hg78 : G17 < G18 := by omega
                  have hul' := hul
                  have HSA := Lib.hid hsa
                  have HRS := Lib.hid HRES.out
                  generalize World.setCell (World.setCell (World.setCell W8 _ _) _ _) _ _ = W9 at h18s HSA hHeld8 ⊢
                  have HS9 := Lib.hid (HS6.out.below hHeld8)
                  have HOW9 := Lib.hid (HOW6.out.kept (show W6.grownBy W9 none from ⟨hHeld8.os, hHeld8.tape, hHeld8.output, hHeld8.size, fun i hi _ => hHeld8.block i hi⟩) (Classical.em _))
                  have H18 := Lib.hid h18s
                  have hG18 := h18s.lt
                  clear hus hHeld8 h18 h18s hsa hbw hgg
                  go_upto_region 25 with (fail)
                  refine wp_region_held_drew (S := fun W' => RwS w G TC XC W' ∧ Bk W' G18 48 #[.int .i64 sp.bit, .int .i64 sp.bits, .int .i64 sp.k]) (by kernel_rfl) ⟨HS9.out.below (bel_drew (Below.refl _ _)), H18.out.below (bel_drew (Below.refl _ _)) H18.out.lt⟩ (fun hHeld => ?_)
                  refine wpAnyH_take (i := 0) (oi := ⟨some 149, Op.load 48 (Operand.tmp 18), 48, "ref.go:52", #[], none⟩) (v := .agg #[.int .i64 sp.bit, .int .i64 sp.bits, .int .i64 sp.k]) rfl (by kernel_rfl) (by kernel_rfl) (by kernel_rfl) (fun _ _ _ h => h) (Or.inl ⟨by rfl, fun w' hw' => ?_⟩) (by assumption) ?_
                  · have r0 := hw'.2.at_ (i := 0) rfl; have r1 := hw'.2.at_ (i := 1) rfl; have r2 := hw'.2.at_ (i := 2) rfl
                    go_simp
                  simp only [Act.put, List.setIfInBounds_toArray, List.set_cons_zero, List.set_cons_succ]
                  refine wpAnyH_take (i := 1) (oi := ⟨some 150, Op.move (Operand.tmp 15), 128, "ref.go:52", #[], none⟩) (v := .slice OA no oc) rfl (by kernel_rfl) (by kernel_rfl) (by kernel_rfl) (fun _ _ _ h => h) (Or.inl ⟨by rfl, fun w' hw' => ?_⟩) (by assumption) ?_
                  · skip
                    go_simp
                  simp only [Act.put, List.setIfInBounds_toArray, List.set_cons_zero, List.set_cons_succ]
                  refine wpAnyH_take (i := 2) (oi := ⟨some 151, Op.move (Operand.tmp 19), 128, "ref.go:52", #[], none⟩) (v := .slice B k c') rfl (by kernel_rfl) (by kernel_rfl) (by kernel_rfl) (fun _ _ _ h => h) (Or.inl ⟨by rfl, fun w' hw' => ?_⟩) (by assumption) ?_
                  · skip
                    go_simp
                  simp only [Act.put, List.setIfInBounds_toArray, List.set_cons_zero, List.set_cons_succ]
                  refine wpAnyH_take (i := 4) (oi := ⟨some 153, Op.move (Operand.tmp 20), 4, "ref.go:52", #[{ on := 6, ground := Ground.gcOnly Departure.lateStores }], none⟩) (v := .bool ok) rfl (by kernel_rfl) (by kernel_rfl) (by kernel_rfl) (fun _ _ _ h => h) (Or.inl ⟨by rfl, fun w' hw' => ?_⟩) (by assumption) ?_
                  · skip
                    go_simp
                  simp only [Act.put, List.setIfInBounds_toArray, List.set_cons_zero, List.set_cons_succ]
                  have hOW : W9.drew.ownsRow (G + 1) 133 4 (.slice OA no oc) own.length (stpC own) := by
                    have h := own_below HOW9.out (bel_drew (Below.refl W9.heap.size W9))
                    have e := HNO.out
                    rw [show (Value.slice OA no oc) = .slice OA own.length oc by rw [e]]
                    exact h
                  have hSA := HSA.out.below (bel_drew (Below.refl W9.heap.size W9))
                  have HEQ := Lib.hid (show (ok = true ∧ walkS (d + 1) t fr dp ((j : Int) :: q) = some (sp, own ++ us)) ∨ (ok = false ∧ walkS (d + 1) t fr dp ((j : Int) :: q) = none) by
                    rw [HWC.out, if_neg (by omega), if_neg (by omega)]
                    rcases HRS.out with ⟨h1, h2⟩ | ⟨h1, h2⟩
                    · left; exact ⟨h1, by rw [h2]; rfl⟩
                    · right; exact ⟨h1, by rw [h2]; rfl⟩)
                  have hS0 := hHeld.1
                  have hB0 := hHeld.2
                  obtain ⟨nn, hnn⟩ : ∃ y, (own ++ us).length = y := ⟨_, rfl⟩
                  have HNN := Lib.hid hnn
                  clear hnn
                  generalize W9.drew = Wd at hHeld hOW hSA hS0 hB0 ⊢
                  refine wpAnyH_ready (rs := [3]) (by kernel_rfl) (by simp) ?_
                  refine AllReadyH.cons (o := ⟨some 152, Op.call { callee := Callee.builtin Builtin.append, args := #[Operand.tmp 150, Operand.tmp 151], argTypes := #[128, 128] }, 128, "ref.go:52", #[⟨1, Ground.data⟩, ⟨2, Ground.data⟩], none⟩) rfl (fun K hK => ?_) AllReadyH.nil
                  refine step_app133 (o := ⟨some 152, Op.call { callee := Callee.builtin Builtin.append, args := #[Operand.tmp 150, Operand.tmp 151], argTypes := #[128, 128] }, 128, "ref.go:52", #[⟨1, Ground.data⟩, ⟨2, Ground.data⟩], none⟩) rfl (.tmp 150) (.tmp 151) rfl Wd (G + 1) _ own (by rfl) hOW B k c' us (by rfl) hSA (by rw [HNO.out]; omega) (by have := hB0.lt; omega) ?_
                  intro v' w' hrow hgrow
                  simp only [Act.put, List.setIfInBounds_toArray, List.set_cons_zero, List.set_cons_succ]
                  obtain ⟨B', c'', rfl⟩ : ∃ (B' : Option Addr) (c'' : Nat), v' = .slice B' nn c'' := by
                    rw [← HNN.out]
                    rcases hrow.2 with ⟨h1, h2⟩ | ⟨g, cap, cur, h1, _⟩
                    · have e : (own ++ us).length = 0 := by first | exact h2 | simpa using h2
                      rw [e]
                      exact ⟨none, 0, h1⟩
                    · exact ⟨_, _, h1⟩
                  have hS8 := hS0.grown hgrow (fun k e => by have := (HON.out k e).1; omega)
                  have hB8 := hB0.grown hgrow (fun e => by have := (HON.out _ e.symm).2; omega)
                  have hst := stps_of_row' hrow HNN.out.symm
                  have hfr := row_fresh hrow (Nat.le_refl (G + 1))
                  have HSF8 := Lib.hid (show StpsF (G + 1) w' B' nn (own ++ us) from ⟨hst, hfr⟩)
                  have HLN := Lib.hid (show ((own ++ us).length : Int) ≤ kk by rw [List.length_append, Int.natCast_add, HNO.out]; omega)
                  skip
                  refine hK.out _ _ ⟨hS8, hB8⟩ (fun hHeld9 => ?_)
                  clear hK K hst hfr hrow hgrow hOW hSA
                  refine wpAnyH_ready (rs := [5]) (by kernel_rfl) (by simp) ?_
                  refine AllReadyH.cons (o := ⟨none, Op.store 48 (Operand.tmp 8) (Operand.tmp 149), 0, "ref.go:52", #[⟨0, Ground.data⟩, ⟨3, Ground.chain⟩, ⟨0, Ground.phase⟩, { on := 1, ground := Ground.textOnly Departure.lateStores }, { on := 2, ground := Ground.textOnly Departure.lateStores }, { on := 3, ground := Ground.textOnly Departure.lateStoresUnsure }, { on := 4, ground := Ground.textOnly Departure.lateStores }], none⟩) rfl (fun K hK => ?_) AllReadyH.nil
                  obtain ⟨z0, z1, z2, hz8'⟩ := hS8.g8
                  have f80 := hz8'.frozen 0; have f81 := hz8'.frozen 1; have f82 := hz8'.frozen 2
                  have u80 := hz8'.at_ (i := 0) rfl; have u81 := hz8'.at_ (i := 1) rfl; have u82 := hz8'.at_ (i := 2) rfl
                  go_simp
                  refine hK.out _ _ ⟨hS8.set8 (.int .i64 sp.bit) (.int .i64 sp.bits) (.int .i64 sp.k), ((hB8.far (p := ⟨w.heap.size + 1, 0, none⟩) (by dsimp only; omega) _).far (p := ⟨w.heap.size + 1, 1, none⟩) (by dsimp only; omega) _).far (p := ⟨w.heap.size + 1, 2, none⟩) (by dsimp only; omega) _⟩ (fun hHeld8 => ?_)
                  clear hK K
                  refine wpAnyH_take (i := 6) (oi := ⟨some 9, Op.assign (Operand.tmp 152), 128, "ref.go:52", #[⟨3, Ground.data⟩, ⟨5, Ground.chain⟩, ⟨0, Ground.phase⟩, ⟨1, Ground.phase⟩, ⟨2, Ground.phase⟩, ⟨3, Ground.phase⟩, { on := 4, ground := Ground.textOnly Departure.lateStores }, ⟨5, Ground.phase⟩], none⟩) (v := .slice B' nn c'') rfl (by kernel_rfl) (by kernel_rfl) (by kernel_rfl) (fun _ _ _ h => h) (Or.inl ⟨by rfl, fun w' hw' => ?_⟩) (by assumption) ?_
                  · skip
                    go_simp
                  simp only [Act.put, List.setIfInBounds_toArray, List.set_cons_zero, List.set_cons_succ]
                  refine wpAnyH_take (i := 7) (oi := ⟨some 10, Op.assign (Operand.tmp 153), 4, "ref.go:52", #[⟨4, Ground.data⟩, ⟨6, Ground.chain⟩, ⟨0, Ground.phase⟩, ⟨1, Ground.phase⟩, ⟨2, Ground.phase⟩, ⟨3, Ground.phase⟩, ⟨4, Ground.phase⟩, ⟨5, Ground.phase⟩, ⟨6, Ground.phase⟩], none⟩) (v := .bool ok) rfl (by kernel_rfl) (by kernel_rfl) (by kernel_rfl) (fun _ _ _ h => h) (Or.inl ⟨by rfl, fun w' hw' => ?_⟩) (by assumption) ?_
                  · skip
                    go_simp
                  simp only [Act.put, List.setIfInBounds_toArray, List.set_cons_zero, List.set_cons_succ]
                  refine wpAnyH_done (by kernel_rfl) ?_ _
                  clear f80 f81 f82 u80 u81 u82
                  go_wp2_with fail
                  exact bodyPost_ret (results92 rfl rfl rfl (fin3 hz8' _ _ _)) rfl ⟨sp, own ++ us, B', nn, c'', ok, rfl, (((HSF8.out.set_ hlt 0 _).set_ hlt 1 _).set_ hlt 2 _).mono (by omega), HLN.out, HEQ.out, fin3b hS8.bel (by omega) _ _ _⟩
                refine AllReadyH.cons (o := ⟨some 18, Op.alloc 48, 0, "ref.go:51", #[], none⟩) rfl (fun K hK => ?_) AllReadyH.nil
                go_simp
                have hba := bel_alloc hbd (.cells #[.int .i64 0, .int .i64 0, .int .i64 0] 48)
                refine hK.out _ _ hba (fun hHeld7 => ?_)
                clear hK K
                have h18a := Bk.new Wd 48 #[.int .i64 0, .int .i64 0, .int .i64 0]
                generalize hgg : Wd.heap.size = G18 at h18a ⊢
                generalize World.alloc Wd _ = Wa at h18a hba hHeld7 ⊢
                clear hHeld7
                refine wpAnyH_ready (rs := [8]) (by kernel_rfl) (by simp) ?_
                refine AllReadyH.cons (o := ⟨some 145, Op.call { callee := Callee.value (Operand.func 92), args := #[Operand.tmp 138, Operand.tmp 140, Operand.tmp 142, Operand.tmp 144], argTypes := #[38, 2, 3, 39] }, 129, "ref.go:51", #[⟨1, Ground.data⟩, ⟨3, Ground.data⟩, ⟨5, Ground.data⟩, ⟨7, Ground.data⟩], none⟩) rfl (fun K hK => ?_) AllReadyH.nil
                go_simp
                refine (HIH.out Wa (bel_then HS6.out.bel hba) _ (HTP.out) _ (by omega) (by omega)).mono ?_
                rintro e w7 ⟨sp, us, B, k, c', ok, rfl, hus, hul, hres, hb7⟩
                have HRES := Lib.hid hres
                have hbc := bel_then hba hb7
                refine hK.out _ _ hbc (fun hHeld7 => ?_)
                clear hK K hres
                have h18 := h18a.below hb7 h18a.lt
                have hla := h18a.lt
                have hsz6 := hbd.size
                have hbw := hbc
                have hsa := (((hus.set_ hla 0 (.int .i64 sp.bit)).set_ hla 1 (.int .i64 sp.bits)).set_ hla 2 (.int .i64 sp.k)).1
                refine wpAnyH_take (i := 9) (oi := ⟨some 136, Op.move (Operand.tmp 145), 129, "ref.go:51", #[⟨8, Ground.data⟩], none⟩) (v := .tuple #[.agg #[.int .i64 sp.bit, .int .i64 sp.bits, .int .i64 sp.k], .slice B k c', .bool ok]) rfl (by kernel_rfl) (by kernel_rfl) (by kernel_rfl) (fun _ _ _ h => h) (Or.inl ⟨by rfl, fun w' hw' => ?_⟩) (by assumption) ?_
                · skip
                  go_simp
                simp only [Act.put, List.setIfInBounds_toArray, List.set_cons_zero, List.set_cons_succ]
                refine wpAnyH_take (i := 10) (oi := ⟨some 146, Op.extract (Operand.tmp 136) 0, 48, "ref.go:51", #[⟨9, Ground.data⟩], none⟩) (v := .agg #[.int .i64 sp.bit, .int .i64 sp.bits, .int .i64 sp.k]) rfl (by kernel_rfl) (by kernel_rfl) (by kernel_rfl) (fun _ _ _ h => h) (Or.inl ⟨by rfl, fun w' hw' => ?_⟩) (by assumption) ?_
                · skip
                  go_simp
                simp only [Act.put, List.setIfInBounds_toArray, List.set_cons_zero, List.set_cons_succ]
                refine wpAnyH_take (i := 11) (oi := ⟨some 147, Op.extract (Operand.tmp 136) 1, 128, "ref.go:51", #[⟨9, Ground.data⟩, { on := 14, ground := Ground.gcOnly Departure.lateStores }], none⟩) (v := .slice B k c') rfl (by kernel_rfl) (by kernel_rfl) (by kernel_rfl) (fun _ _ _ h => h) (Or.inl ⟨by rfl, fun w' hw' => ?_⟩) (by assumption) ?_
                · skip
                  go_simp
                simp only [Act.put, List.setIfInBounds_toArray, List.set_cons_zero, List.set_cons_succ]
                refine wpAnyH_take (i := 12) (oi := ⟨some 148, Op.extract (Operand.tmp 136) 2, 4, "ref.go:51", #[⟨9, Ground.data⟩, { on := 15, ground := Ground.gcOnly Departure.lateStores }], none⟩) (v := .bool ok) rfl (by kernel_rfl) (by kernel_rfl) (by kernel_rfl) (fun _ _ _ h => h) (Or.inl ⟨by rfl, fun w' hw' => ?_⟩) (by assumption) ?_
                · skip
                  go_simp
                simp only [Act.put, List.setIfInBounds_toArray, List.set_cons_zero, List.set_cons_succ]
                refine wpAnyH_ready (rs := [14]) (by kernel_rfl) (by simp) ?_
                refine AllReadyH.cons (o := ⟨none, Op.store 48 (Operand.tmp 18) (Operand.tmp 146), 0, "ref.go:51", #[⟨13, Ground.data⟩, ⟨10, Ground.data⟩, ⟨8, Ground.chain⟩, ⟨0, Ground.phase⟩, ⟨1, Ground.phase⟩, ⟨2, Ground.phase⟩, ⟨3, Ground.phase⟩, ⟨4, Ground.phase⟩, ⟨5, Ground.phase⟩, ⟨6, Ground.phase⟩, ⟨7, Ground.phase⟩, ⟨8, Ground.phase⟩, ⟨9, Ground.phase⟩, ⟨10, Ground.phase⟩, { on := 11, ground := Ground.textOnly Departure.lateStores }, { on := 12, ground := Ground.textOnly Departure.lateStores }, ⟨13, Ground.phase⟩], none⟩) rfl (fun K hK => ?_) AllReadyH.nil
                have f80 := h18.frozen 0; have f81 := h18.frozen 1; have f82 := h18.frozen 2
                have u80 := h18.at_ (i := 0) rfl; have u81 := h18.at_ (i := 1) rfl; have u82 := h18.at_ (i := 2) rfl
                go_simp
                refine hK.out _ _ (bel_set (bel_set (bel_set hbw (by dsimp only; omega) _) (by dsimp only; omega) _) (by dsimp only; omega) _) (fun hHeld8 => ?_)
                clear hK K f80 f81 f82 u80 u81 u82
                refine wpAnyH_take (i := 15) (oi := ⟨some 19, Op.assign (Operand.tmp 147), 128, "ref.go:51", #[⟨11, Ground.data⟩, ⟨14, Ground.chain⟩, ⟨0, Ground.phase⟩, ⟨1, Ground.phase⟩, ⟨2, Ground.phase⟩, ⟨3, Ground.phase⟩, ⟨4, Ground.phase⟩, ⟨5, Ground.phase⟩, ⟨6, Ground.phase⟩, ⟨7, Ground.phase⟩, ⟨8, Ground.phase⟩, ⟨9, Ground.phase⟩, ⟨10, Ground.phase⟩, ⟨11, Ground.phase⟩, { on := 12, ground := Ground.textOnly Departure.lateStores }, ⟨13, Ground.phase⟩, ⟨14, Ground.phase⟩], none⟩) (v := .slice B k c') rfl (by kernel_rfl) (by kernel_rfl) (by kernel_rfl) (fun _ _ _ h => h) (Or.inl ⟨by rfl, fun w' hw' => ?_⟩) (by assumption) ?_
                · skip
                  go_simp
                simp only [Act.put, List.setIfInBounds_toArray, List.set_cons_zero, List.set_cons_succ]
                refine wpAnyH_take (i := 16) (oi := ⟨some 20, Op.assign (Operand.tmp 148), 4, "ref.go:51", #[⟨12, Ground.data⟩, ⟨15, Ground.chain⟩, ⟨0, Ground.phase⟩, ⟨1, Ground.phase⟩, ⟨2, Ground.phase⟩, ⟨3, Ground.phase⟩, ⟨4, Ground.phase⟩, ⟨5, Ground.phase⟩, ⟨6, Ground.phase⟩, ⟨7, Ground.phase⟩, ⟨8, Ground.phase⟩, ⟨9, Ground.phase⟩, ⟨10, Ground.phase⟩, ⟨11, Ground.phase⟩, ⟨12, Ground.phase⟩, ⟨13, Ground.phase⟩, ⟨14, Ground.phase⟩, ⟨15, Ground.phase⟩], none⟩) (v := .bool ok) rfl (by kernel_rfl) (by kernel_rfl) (by kernel_rfl) (fun _ _ _ h => h) (Or.inl ⟨by rfl, fun w' hw' => ?_⟩) (by assumption) ?_
                · skip
                  go_simp
                simp only [Act.put, List.setIfInBounds_toArray, List.set_cons_zero, List.set_cons_succ]
                refine wpAnyH_done (by kernel_rfl) ?_ _
                have h18s := fin3 h18 (.int .i64 sp.bit) (.int .i64 sp.bits) (.int .i64 sp.k)
                have hg78 : G17 < G18 := by omega
                have HSA := Lib.hid hsa
                have HRS := Lib.hid HRES.out
                generalize World.setCell (World.setCell (World.setCell w7 _ _) _ _) _ _ = W9 at h18s HSA hHeld8 ⊢
                have HS9 := Lib.hid (HS6.out.below hHeld8)
                have HOW9 := Lib.hid (HOW6.out.kept (show W6.grownBy W9 none from ⟨hHeld8.os, hHeld8.tape, hHeld8.output, hHeld8.size, fun i hi _ => hHeld8.block i hi⟩) (Classical.em _))
                have H18 := Lib.hid h18s
                have hG18 := h18s.lt
                clear hus hHeld8 h18 h18s hsa hbw hgg
                go_upto_region 25 with (fail)
                refine wp_region_held_drew (S := fun W' => RwS w G TC XC W' ∧ Bk W' G18 48 #[.int .i64 sp.bit, .int .i64 sp.bits, .int .i64 sp.k]) (by kernel_rfl) ⟨HS9.out.below (bel_drew (Below.refl _ _)), H18.out.below (bel_drew (Below.refl _ _)) H18.out.lt⟩ (fun hHeld => ?_)
                refine wpAnyH_take (i := 0) (oi := ⟨some 149, Op.load 48 (Operand.tmp 18), 48, "ref.go:52", #[], none⟩) (v := .agg #[.int .i64 sp.bit, .int .i64 sp.bits, .int .i64 sp.k]) rfl (by kernel_rfl) (by kernel_rfl) (by kernel_rfl) (fun _ _ _ h => h) (Or.inl ⟨by rfl, fun w' hw' => ?_⟩) (by assumption) ?_
                · have r0 := hw'.2.at_ (i := 0) rfl; have r1 := hw'.2.at_ (i := 1) rfl; have r2 := hw'.2.at_ (i := 2) rfl
                  go_simp
                simp only [Act.put, List.setIfInBounds_toArray, List.set_cons_zero, List.set_cons_succ]
                refine wpAnyH_take (i := 1) (oi := ⟨some 150, Op.move (Operand.tmp 15), 128, "ref.go:52", #[], none⟩) (v := .slice OA no oc) rfl (by kernel_rfl) (by kernel_rfl) (by kernel_rfl) (fun _ _ _ h => h) (Or.inl ⟨by rfl, fun w' hw' => ?_⟩) (by assumption) ?_
                · skip
                  go_simp
                simp only [Act.put, List.setIfInBounds_toArray, List.set_cons_zero, List.set_cons_succ]
                refine wpAnyH_take (i := 2) (oi := ⟨some 151, Op.move (Operand.tmp 19), 128, "ref.go:52", #[], none⟩) (v := .slice B k c') rfl (by kernel_rfl) (by kernel_rfl) (by kernel_rfl) (fun _ _ _ h => h) (Or.inl ⟨by rfl, fun w' hw' => ?_⟩) (by assumption) ?_
                · skip
                  go_simp
                simp only [Act.put, List.setIfInBounds_toArray, List.set_cons_zero, List.set_cons_succ]
                refine wpAnyH_take (i := 4) (oi := ⟨some 153, Op.move (Operand.tmp 20), 4, "ref.go:52", #[{ on := 6, ground := Ground.gcOnly Departure.lateStores }], none⟩) (v := .bool ok) rfl (by kernel_rfl) (by kernel_rfl) (by kernel_rfl) (fun _ _ _ h => h) (Or.inl ⟨by rfl, fun w' hw' => ?_⟩) (by assumption) ?_
                · skip
                  go_simp
                simp only [Act.put, List.setIfInBounds_toArray, List.set_cons_zero, List.set_cons_succ]
                have hOW : W9.drew.ownsRow (G + 1) 133 4 (.slice OA no oc) own.length (stpC own) := by
                  have h := own_below HOW9.out (bel_drew (Below.refl W9.heap.size W9))
                  have e := HNO.out
                  rw [show (Value.slice OA no oc) = .slice OA own.length oc by rw [e]]
                  exact h
                have hSA := HSA.out.below (bel_drew (Below.refl W9.heap.size W9))
                have HEQ := Lib.hid (show (ok = true ∧ walkS (d + 1) t fr dp ((j : Int) :: q) = some (sp, own ++ us)) ∨ (ok = false ∧ walkS (d + 1) t fr dp ((j : Int) :: q) = none) by
                  rw [HWC.out, if_neg (by omega), if_neg (by omega)]
                  rcases HRS.out with ⟨h1, h2⟩ | ⟨h1, h2⟩
                  · left; exact ⟨h1, by rw [h2]; rfl⟩
                  · right; exact ⟨h1, by rw [h2]; rfl⟩)
                have hS0 := hHeld.1
                have hB0 := hHeld.2
                obtain ⟨nn, hnn⟩ : ∃ y, (own ++ us).length = y := ⟨_, rfl⟩
                have HNN := Lib.hid hnn
                clear hnn
                generalize W9.drew = Wd at hHeld hOW hSA hS0 hB0 ⊢
                refine wpAnyH_ready (rs := [3]) (by kernel_rfl) (by simp) ?_
                refine AllReadyH.cons (o := ⟨some 152, Op.call { callee := Callee.builtin Builtin.append, args := #[Operand.tmp 150, Operand.tmp 151], argTypes := #[128, 128] }, 128, "ref.go:52", #[⟨1, Ground.data⟩, ⟨2, Ground.data⟩], none⟩) rfl (fun K hK => ?_) AllReadyH.nil
                refine step_app133 (o := ⟨some 152, Op.call { callee := Callee.builtin Builtin.append, args := #[Operand.tmp 150, Operand.tmp 151], argTypes := #[128, 128] }, 128, "ref.go:52", #[⟨1, Ground.data⟩, ⟨2, Ground.data⟩], none⟩) rfl (.tmp 150) (.tmp 151) rfl Wd (G + 1) _ own (by rfl) hOW B k c' us (by rfl) hSA (by rw [HNO.out]; omega) (by have := hB0.lt; omega) ?_
                intro v' w' hrow hgrow
                simp only [Act.put, List.setIfInBounds_toArray, List.set_cons_zero, List.set_cons_succ]
                obtain ⟨B', c'', rfl⟩ : ∃ (B' : Option Addr) (c'' : Nat), v' = .slice B' nn c'' := by
                  rw [← HNN.out]
                  rcases hrow.2 with ⟨h1, h2⟩ | ⟨g, cap, cur, h1, _⟩
                  · have e : (own ++ us).length = 0 := by first | exact h2 | simpa using h2
                    rw [e]
                    exact ⟨none, 0, h1⟩
                  · exact ⟨_, _, h1⟩
                have hS8 := hS0.grown hgrow (fun k e => by have := (HON.out k e).1; omega)
                have hB8 := hB0.grown hgrow (fun e => by have := (HON.out _ e.symm).2; omega)
                have hst := stps_of_row' hrow HNN.out.symm
                have hfr := row_fresh hrow (Nat.le_refl (G + 1))
                have HSF8 := Lib.hid (show StpsF (G + 1) w' B' nn (own ++ us) from ⟨hst, hfr⟩)
                have HLN := Lib.hid (show ((own ++ us).length : Int) ≤ kk by rw [List.length_append, Int.natCast_add, HNO.out]; omega)
                skip
                refine hK.out _ _ ⟨hS8, hB8⟩ (fun hHeld9 => ?_)
                clear hK K hst hfr hrow hgrow hOW hSA
                refine wpAnyH_ready (rs := [5]) (by kernel_rfl) (by simp) ?_
                refine AllReadyH.cons (o := ⟨none, Op.store 48 (Operand.tmp 8) (Operand.tmp 149), 0, "ref.go:52", #[⟨0, Ground.data⟩, ⟨3, Ground.chain⟩, ⟨0, Ground.phase⟩, { on := 1, ground := Ground.textOnly Departure.lateStores }, { on := 2, ground := Ground.textOnly Departure.lateStores }, { on := 3, ground := Ground.textOnly Departure.lateStoresUnsure }, { on := 4, ground := Ground.textOnly Departure.lateStores }], none⟩) rfl (fun K hK => ?_) AllReadyH.nil
                obtain ⟨z0, z1, z2, hz8'⟩ := hS8.g8
                have f80 := hz8'.frozen 0; have f81 := hz8'.frozen 1; have f82 := hz8'.frozen 2
                have u80 := hz8'.at_ (i := 0) rfl; have u81 := hz8'.at_ (i := 1) rfl; have u82 := hz8'.at_ (i := 2) rfl
                go_simp
                refine hK.out _ _ ⟨hS8.set8 (.int .i64 sp.bit) (.int .i64 sp.bits) (.int .i64 sp.k), ((hB8.far (p := ⟨w.heap.size + 1, 0, none⟩) (by dsimp only; omega) _).far (p := ⟨w.heap.size + 1, 1, none⟩) (by dsimp only; omega) _).far (p := ⟨w.heap.size + 1, 2, none⟩) (by dsimp only; omega) _⟩ (fun hHeld8 => ?_)
                clear hK K
                refine wpAnyH_take (i := 6) (oi := ⟨some 9, Op.assign (Operand.tmp 152), 128, "ref.go:52", #[⟨3, Ground.data⟩, ⟨5, Ground.chain⟩, ⟨0, Ground.phase⟩, ⟨1, Ground.phase⟩, ⟨2, Ground.phase⟩, ⟨3, Ground.phase⟩, { on := 4, ground := Ground.textOnly Departure.lateStores }, ⟨5, Ground.phase⟩], none⟩) (v := .slice B' nn c'') rfl (by kernel_rfl) (by kernel_rfl) (by kernel_rfl) (fun _ _ _ h => h) (Or.inl ⟨by rfl, fun w' hw' => ?_⟩) (by assumption) ?_
                · skip
                  go_simp
                simp only [Act.put, List.setIfInBounds_toArray, List.set_cons_zero, List.set_cons_succ]
                refine wpAnyH_take (i := 7) (oi := ⟨some 10, Op.assign (Operand.tmp 153), 4, "ref.go:52", #[⟨4, Ground.data⟩, ⟨6, Ground.chain⟩, ⟨0, Ground.phase⟩, ⟨1, Ground.phase⟩, ⟨2, Ground.phase⟩, ⟨3, Ground.phase⟩, ⟨4, Ground.phase⟩, ⟨5, Ground.phase⟩, ⟨6, Ground.phase⟩], none⟩) (v := .bool ok) rfl (by kernel_rfl) (by kernel_rfl) (by kernel_rfl) (fun _ _ _ h => h) (Or.inl ⟨by rfl, fun w' hw' => ?_⟩) (by assumption) ?_
                · skip
                  go_simp
                simp only [Act.put, List.setIfInBounds_toArray, List.set_cons_zero, List.set_cons_succ]
                refine wpAnyH_done (by kernel_rfl) ?_ _
                clear f80 f81 f82 u80 u81 u82
                go_wp2_with fail
                exact bodyPost_ret (results92 rfl rfl rfl (fin3 hz8' _ _ _)) rfl ⟨sp, own ++ us, B', nn, c'', ok, rfl, (((HSF8.out.set_ hlt 0 _).set_ hlt 1 _).set_ hlt 2 _).mono (by omega), HLN.out, HEQ.out, fin3b hS8.bel (by omega) _ _ _⟩
theorem rwalk_c : ∀ d, RwC d
  | 0 => fun t => nomatch t
  | d + 1 => rwalk_s (rwalk_c d)
end Go.Proofs.Ytcggghamnmflcaa
