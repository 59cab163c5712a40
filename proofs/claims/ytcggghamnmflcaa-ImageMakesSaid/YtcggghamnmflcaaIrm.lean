/- burinref11.Make. ImageMakes. -/
import Derived.Test.YtcggghamnmflcaaIth
import Derived.Test.YtcggghamnmflcaaIza
import Derived.Test.YtcggghamnmflcaaIrw
namespace Go.Proofs.Ytcggghamnmflcaa
open Go Go.RowKit Go.Shelf
/-- Steps in memory stay while another block is written. -/
theorem StpsAt.gx {g : Nat} {W W' : World} (h : Gx g W W') {A : Option Addr} {n : Nat} {l : List Stp} (hs : StpsAt W A n l) (hb : ∀ a, A = some a → a.block ≠ g) : StpsAt W' A n l := by
  have cell : ∀ {a : Addr} {v : Value}, W.cell? a = some v → a.block ≠ g → W'.cell? a = some v := fun hc h1 =>
    (World.cell?_of_block (w := W) (h.block _ (World.block_lt_of_cell? W _ hc) h1)).trans hc
  refine ⟨hs.1, fun i s hi => ?_⟩
  obtain ⟨b, o, he, c0, c1, c2, c3⟩ := hs.2 i s hi
  have hbb := hb _ he
  dsimp only at hbb
  exact ⟨b, o, he, cell c0 hbb, cell c1 hbb, cell c2 hbb, cell c3 hbb⟩
theorem Gx.bk {g : Nat} {W W' : World} (h : Gx g W W') {b : Nat} {t : TypeId} {cs : Array Value} (hb : Bk W b t cs) (h1 : b ≠ g) : Bk W' b t cs := (h.block b hb.lt h1).trans hb
theorem Gx.cell {g : Nat} {W W' : World} (h : Gx g W W') {a : Addr} {v : Value} (hc : W.cell? a = some v) (h1 : a.block ≠ g) : W'.cell? a = some v :=
  (World.cell?_of_block (w := W) (h.block _ (World.block_lt_of_cell? W _ hc) h1)).trans hc
theorem Gx.refl (g : Nat) (W : World) : Gx g W W := ⟨rfl, rfl, rfl, Nat.le_refl _, fun _ _ _ => rfl⟩
theorem Gx.trans {g : Nat} {A B C : World} (h : Gx g A B) (k : Gx g B C) : Gx g A C :=
  ⟨k.os.trans h.os, k.tape.trans h.tape, k.output.trans h.output, Nat.le_trans h.size k.size, fun i hi hn => (k.block i (Nat.lt_of_lt_of_le hi h.size) hn).trans (h.block i hi hn)⟩
/-- What the reference's Make keeps in memory. -/
structure RmM (w : World) (gb n : Nat) (v0 v1 v2 v3 v4 v5 v6 : Value) (st : Mst) (M : List Stp) (B : Option Addr) (nM : Nat) (W : World) : Prop where
  by_ : ByA W gb st.1 []
  bel : Below w.heap.size w W
  g2 : Bk W w.heap.size 38 #[v0, v1, v2, v3, v4, v5, v6]
  len : st.1.length = n
  lt : ∀ x ∈ st.1, x < 256
  at_ : StpsAt W B nM M
  far : ∀ a, B = some a → gb < a.block
  lst : ∀ k, lastM M k = st.2 k
theorem RmM.below {w : World} {gb n : Nat} {v0 v1 v2 v3 v4 v5 v6 : Value} {st : Mst} {M : List Stp} {B : Option Addr} {nM : Nat} {W W' : World} (h : RmM w gb n v0 v1 v2 v3 v4 v5 v6 st M B nM W) (hb : Below W.heap.size W W') : RmM w gb n v0 v1 v2 v3 v4 v5 v6 st M B nM W' :=
  ⟨h.by_.below hb h.by_.lt, bel_then h.bel hb, h.g2.below hb h.g2.lt, h.len, h.lt, h.at_.below hb, h.far, h.lst⟩
theorem clrL_len {l : List Nat} {M : List Stp} {s : Stp} (h : s.from_.toNat + s.size.toNat ≤ l.length) : (clrL l M s).length = l.length := by
  unfold clrL
  split
  · exact clr_len h
  · rfl
theorem clrL_lt {l : List Nat} {M : List Stp} {s : Stp} (h : ∀ x ∈ l, x < 256) : ∀ x ∈ clrL l M s, x < 256 := by
  unfold clrL
  split
  · exact clr_lt h
  · exact h
/-- A union is led through. -/
theorem RmM.thr {w : World} {gb n : Nat} {v0 v1 v2 v3 v4 v5 v6 : Value} {st : Mst} {M : List Stp} {B : Option Addr} {nM : Nat} {W W' : World} (h : RmM w gb n v0 v1 v2 v3 v4 v5 v6 st M B nM W) (hg : w.heap.size < gb) (s : Stp) (hr : s.from_.toNat + s.size.toNat ≤ n) {B' : Option Addr} {n' : Nat}
    (h1 : StpsF W.heap.size W' B' n' (metM M s)) (h2 : ByA W' gb (clrL st.1 M s) []) (h3 : Gx gb W W') : RmM w gb n v0 v1 v2 v3 v4 v5 v6 (thr1 st s) (metM M s) B' n' W' := by
  have e : thr1 st s = (clrL st.1 M s, fun k => lastM (metM M s) k) := thr_met (l := st.1) (f := st.2) h.lst s
  rw [e]
  refine ⟨h2, Gx.bel h.bel h3 (by omega), h3.bk h.g2 (by omega), ?_, clrL_lt h.lt, h1.1, fun a ha => Nat.lt_of_lt_of_le h.by_.lt (h1.2 a ha), fun k => rfl⟩
  show (clrL st.1 M s).length = n
  rw [clrL_len (by rw [h.len]; exact hr), h.len]
/-- A value is written. -/
theorem RmM.write {w : World} {gb n : Nat} {v0 v1 v2 v3 v4 v5 v6 : Value} {st : Mst} {M : List Stp} {B : Option Addr} {nM : Nat} {W W' : World} (h : RmM w gb n v0 v1 v2 v3 v4 v5 v6 st M B nM W) (hg : w.heap.size < gb) {bt u bs : Nat} (hb : bt + bs ≤ 8 * n)
    (hw : ByA W' gb (wrS st.1 bt u bs) []) (hx : Gx gb W W') : RmM w gb n v0 v1 v2 v3 v4 v5 v6 (wrS st.1 bt u bs, st.2) M B nM W' := by
  refine ⟨hw, Gx.bel h.bel hx (by omega), hx.bk h.g2 (by omega), ?_, wrS_lt h.lt (by rw [h.len]; exact hb), h.at_.gx hx (fun a ha => by have := h.far a ha; omega), h.far, h.lst⟩
  show (wrS st.1 bt u bs).length = n
  rw [wrS_len, h.len]
set_option maxRecDepth 100000 in
set_option maxHeartbeats 8000000 in
theorem rmake_c {d : Nat} {t : Tp d} {v0 v1 v2 v3 v4 v5 v6 : Value} (A : Option Addr) (l : List (List Int × Int)) (c : Nat) (w : World) (ht : TyAt w d t [v0, v1, v2, v3, v4, v5, v6]) (hS : SetsAt w A l.length l) (hl : l.length ≤ 100) (_hlc : l.length ≤ c) :
    Calls Try.prog 56 #[.agg #[v0, v1, v2, v3, v4, v5, v6], .slice A l.length c] w (MakP d t l w) := by
  have HT := Lib.hid ht
  have HS := Lib.hid hS
  have HO := fun w' (hb : Below w.heap.size w w') => rOf_c (ht.below hb)
  unfold OfP at HO
  obtain ⟨V, hV⟩ : ∃ x, mkV d t l = x := ⟨_, rfl⟩
  obtain ⟨E, hE⟩ : ∃ x, mkE d t l = x := ⟨_, rfl⟩
  obtain ⟨I, hI⟩ : ∃ x, mkI d t l = x := ⟨_, rfl⟩
  have HV := Lib.hid hV
  have HE := Lib.hid hE
  have HI := Lib.hid hI
  have HP := Lib.hid (show ∀ e w', (e = .returned (.tuple #[.string V, .int .i64 E, .int .i64 I]) ∧ Below w.heap.size w w') → MakP d t l w e w' from fun e w' h => by unfold MakP; rw [hV, hE, hI]; exact h)
  obtain ⟨sz, hsz⟩ : ∃ x, szS d t = x := ⟨_, rfl⟩
  obtain ⟨ag, hag⟩ : ∃ x, agS d t = x := ⟨_, rfl⟩
  obtain ⟨er, her⟩ : ∃ x, errS d t = x := ⟨_, rfl⟩
  rw [hsz, hag, her] at HO
  replace HO := Lib.hid HO
  have HZ := Lib.hid hsz
  have HER := Lib.hid her
  clear ht hS hV hE hI hsz hag her
  refine Calls.mono ?_ (fun e w' h => HP.out e w' h)
  clear HP
  go_enter Try.func56, Try.ntmps56
  go_upto_region 1 with (fail)
  have hT := Bk.new w 38 #[v0, v1, v2, v3, v4, v5, v6]
  have hb0 := bel_alloc (Below.refl _ w) (.cells #[v0, v1, v2, v3, v4, v5, v6] 38)
  generalize World.alloc w _ = W0 at hT hb0 ⊢
  have t0 := hT.at_ (i := 0) rfl; have t1 := hT.at_ (i := 1) rfl; have t2 := hT.at_ (i := 2) rfl; have t3 := hT.at_ (i := 3) rfl; have t4 := hT.at_ (i := 4) rfl; have t5 := hT.at_ (i := 5) rfl; have t6 := hT.at_ (i := 6) rfl
  go_wp2_with fail
  refine (HO.out _ hb0).mono ?_
  rintro e w1 ⟨XA, xn, xc, rfl, hb1, -, -⟩
  have hT1 := (hT.below hb1 hT.lt).alloc (.cells #[.int .i64 sz, .int .i64 ag, .bool false, .slice XA xn xc] 58)
  have h7 := Bk.new w1 58 #[.int .i64 sz, .int .i64 ag, .bool false, .slice XA xn xc]
  have HB1 := Lib.hid (bel_alloc (bel_then hb0 hb1) (.cells #[.int .i64 sz, .int .i64 ag, .bool false, .slice XA xn xc] 58))
  clear t0 t1 t2 t3 t4 t5 t6 hb0 hb1 hT
  go_upto_region 2 with (fail)
  generalize World.alloc w1 _ = W2 at hT1 h7 HB1 ⊢
  by_cases he : er = 0
  · subst he
    obtain ⟨q1, q2⟩ := err_0 HER.out
    have hok := boxS_ok d t 6 _ q1 q2
    have hsz' : szS d t = (boxD d t).size := by unfold szS; rw [if_pos HER.out]
    obtain ⟨n, rfl⟩ : ∃ n : Nat, sz = (n : Int) := ⟨sz.toNat, by have := hok.1; have := HZ.out; omega⟩
    have hn1 : 1 ≤ n ∧ n ≤ 65536 := by have := hok.1; have := hok.2.1; have := HZ.out; omega
    have HQ1 := Lib.hid q1
    have HQ2 := Lib.hid q2
    have HN := Lib.hid (show (boxD d t).size = (n : Int) by rw [← hsz', HZ.out])
    have k0 := h7.at_ (i := 0) rfl
    clear q1 q2 hok hsz'
    have hmk := fun W => make_bytes W n hn1.2
    go_upto_region 7 with (fail)
    have hby : ByA (W2.alloc (.cells (byC (List.replicate n 0)).toArray 5)) W2.heap.size (List.replicate n 0) [] := .of_bk (by rw [List.append_nil]; exact Bk.new W2 5 _)
    have hT7 := hT1.alloc (.cells (byC (List.replicate n 0)).toArray 5)
    have hb7 := bel_alloc HB1.out (.cells (byC (List.replicate n 0)).toArray 5)
    have hgb2 := hT1.lt
    clear hmk hT1 HB1 k0 h7
    obtain ⟨gb, hgbe⟩ : ∃ g, W2.heap.size = g := ⟨_, rfl⟩
    generalize World.alloc W2 _ = W7 at hby hT7 hb7 ⊢
    rw [hgbe] at hby hgb2 ⊢
    clear hgbe
    have HM7 := Lib.hid (show RmM w gb n v0 v1 v2 v3 v4 v5 v6 (mst0 n) [] none 0 W7 from ⟨hby, hb7, hT7, by simp [mst0], fun x hx => by have := List.eq_of_mem_replicate hx; omega, ⟨rfl, fun i s h => by simp at h⟩, (fun a ha => by cases ha), fun k => rfl⟩)
    clear hby hT7 hb7
    go_wp2_with fail
    go_loopw [10, 11] (fun s10 s11 wr => ∃ j : Nat, j ≤ l.length ∧ s11 = .int .i64 j ∧ (∀ x ∈ l.take j, (walkS d t 0 0 x.1).isSome = true) ∧ ∃ (B : Option Addr) (nM cM : Nat) (M : List Stp), s10 = .slice B nM cM ∧ nM ≤ cM ∧ nM ≤ 6 * j ∧ RmM w gb n v0 v1 v2 v3 v4 v5 v6 ((l.take j).foldl (set1 d t) (mst0 n)) M B nM wr) (fun _ i _ => l.length - (intOf i).toNat)
    case atStart => exact ⟨0, Nat.zero_le _, rfl, by simp, none, 0, 0, [], rfl, Nat.le_refl _, Nat.le_refl _, HM7.out⟩
    case round =>
      clear HM7
      obtain ⟨j, hj, rfl, hall, B, nM, cM, M, rfl, hnc, hnj, hM⟩ := hrel
      have HALL := Lib.hid hall
      clear hall
      by_cases hlt : j < l.length
      · obtain ⟨x, hx⟩ : ∃ x, l[j]? = some x := ⟨_, List.getElem?_eq_getElem hlt⟩
        obtain ⟨sb', so, PA, pc, rfl, c0, c1, hPI, hp1, hp2⟩ := HS.out.2 j x hx
        have hsnoc := set1_snoc d t (l.take j) (mst0 n) x
        rw [← take_snoc_of hx] at hsnoc
        obtain ⟨st, hst⟩ : ∃ s, (l.take j).foldl (set1 d t) (mst0 n) = s := ⟨_, rfl⟩
        rw [hst] at hsnoc hM
        obtain ⟨p, xv⟩ := x
        simp only at c0 c1 hPI hp1 hp2 hsnoc
        have HSN := Lib.hid hsnoc
        have HXX := Lib.hid hx
        have HC0 := Lib.hid c0
        have HC1 := Lib.hid c1
        have hbl : sb' < w.heap.size := World.block_lt_of_cell? _ _ c0
        have HF := Lib.hid (fun w' (hb : Below w.heap.size w w') => show Calls Try.prog 92 #[.agg #[v0, v1, v2, v3, v4, v5, v6], .int .i64 0, .int .i64 0, .slice PA p.length pc] w' (RwP d t 0 0 p 6 w') from
          rwalk_c d t v0 v1 v2 v3 v4 v5 v6 PA p pc 0 0 6 _ w' HQ1.out (by omega) HQ2.out (HT.out.below hb) (hPI.below hb) hp1 hp2 (by omega) (by have := HN.out; omega) (by omega) (by omega))
        obtain ⟨np, hnp⟩ : ∃ y, p.length = y := ⟨_, rfl⟩
        rw [hnp] at HC0 HF
        clear hsnoc hx hPI hst c0 c1 hp1 hp2 hnp
        have HM := Lib.hid hM
        clear hM
        obtain ⟨wo, rfl⟩ : ∃ wo : World, wo = wr := ⟨_, rfl⟩
        have hgwo := HM.out.by_.lt
        go_upto_region 9 with (fail)
        refine wp_region_held_drew (S := fun W' => Below wo.heap.size wo W') (by kernel_rfl) (bel_drew (Below.refl _ _)) (fun hHeld => ?_)
        refine wpAnyH_take (i := 0) (oi := ⟨some 34, Op.load 38 (Operand.tmp 2), 38, "ref.go:103", #[], none⟩) (v := .agg #[v0, v1, v2, v3, v4, v5, v6]) rfl (by kernel_rfl) (by kernel_rfl) (by kernel_rfl) (fun _ _ _ h => h) (Or.inl ⟨by rfl, fun w' hw' => ?_⟩) (by assumption) ?_
        · have hk2 := HM.out.g2.below hw' HM.out.g2.lt
          have r0 := hk2.at_ (i := 0) rfl; have r1 := hk2.at_ (i := 1) rfl; have r2 := hk2.at_ (i := 2) rfl; have r3 := hk2.at_ (i := 3) rfl; have r4 := hk2.at_ (i := 4) rfl; have r5 := hk2.at_ (i := 5) rfl; have r6 := hk2.at_ (i := 6) rfl
          go_simp
        simp only [Act.put, List.setIfInBounds_toArray, List.set_cons_zero, List.set_cons_succ]
        refine wpAnyH_take (i := 1) (oi := ⟨some 35, Op.move (Operand.tmp 1), 64, "ref.go:103", #[], none⟩) (v := .slice (some ⟨sb', so, none⟩) l.length c) rfl (by kernel_rfl) (by kernel_rfl) (by kernel_rfl) (fun _ _ _ h => h) (Or.inl ⟨by rfl, fun w' hw' => ?_⟩) (by assumption) ?_
        · skip
          go_simp
        simp only [Act.put, List.setIfInBounds_toArray, List.set_cons_zero, List.set_cons_succ]
        refine wpAnyH_take (i := 2) (oi := ⟨some 36, Op.move (Operand.tmp 11), 3, "ref.go:103", #[], none⟩) (v := .int .i64 j) rfl (by kernel_rfl) (by kernel_rfl) (by kernel_rfl) (fun _ _ _ h => h) (Or.inl ⟨by rfl, fun w' hw' => ?_⟩) (by assumption) ?_
        · skip
          go_simp
        simp only [Act.put, List.setIfInBounds_toArray, List.set_cons_zero, List.set_cons_succ]
        refine wpAnyH_take (i := 3) (oi := ⟨some 37, Op.indexAddr 64 (Operand.tmp 35) (Operand.tmp 36), 0, "ref.go:103", #[⟨1, Ground.data⟩, ⟨2, Ground.data⟩], none⟩) (v := .pointer (some ⟨sb', so + j * 2, none⟩)) rfl (by kernel_rfl) (by kernel_rfl) (by kernel_rfl) (fun _ _ _ h => h) (Or.inl ⟨by rfl, fun w' hw' => ?_⟩) (by assumption) ?_
        · skip
          go_simp
        simp only [Act.put, List.setIfInBounds_toArray, List.set_cons_zero, List.set_cons_succ]
        refine wpAnyH_take (i := 4) (oi := ⟨some 38, Op.fieldAddr 77 (Operand.tmp 37) 0, 0, "ref.go:103", #[⟨3, Ground.data⟩], none⟩) (v := .pointer (some ⟨sb', so + j * 2, none⟩)) rfl (by kernel_rfl) (by kernel_rfl) (by kernel_rfl) (fun _ _ _ h => h) (Or.inl ⟨by rfl, fun w' hw' => ?_⟩) (by assumption) ?_
        · skip
          go_simp
        simp only [Act.put, List.setIfInBounds_toArray, List.set_cons_zero, List.set_cons_succ]
        refine wpAnyH_take (i := 5) (oi := ⟨some 39, Op.load 39 (Operand.tmp 38), 39, "ref.go:103", #[⟨4, Ground.data⟩], none⟩) (v := .slice PA np pc) rfl (by kernel_rfl) (by kernel_rfl) (by kernel_rfl) (fun _ _ _ h => h) (Or.inl ⟨by rfl, fun w' hw' => ?_⟩) (by assumption) ?_
        · have r0 := bel_cell (bel_then HM.out.bel hw') HC0.out
          go_simp
        simp only [Act.put, List.setIfInBounds_toArray, List.set_cons_zero, List.set_cons_succ]
        have hbd : Below wo.heap.size wo wo.drew := bel_drew (Below.refl _ _)
        have hgwd : gb < wo.drew.heap.size := hgwo
        generalize wo.drew = Wd at hHeld hbd hgwd ⊢
        clear hHeld
        refine wpAnyH_ready (rs := [6, 11]) (by kernel_rfl) (by simp) ?_
        refine AllReadyH.cons (o := ⟨some 40, Op.call { callee := Callee.value (Operand.func 92), args := #[Operand.tmp 34, Operand.const (Value.int IntKind.i64 0), Operand.const (Value.int IntKind.i64 0), Operand.tmp 39], argTypes := #[38, 2, 3, 39] }, 129, "ref.go:103", #[⟨0, Ground.data⟩, ⟨5, Ground.data⟩], none⟩) rfl (fun K hK => ?_) ?_
        · go_simp
          refine (HF.out Wd (bel_then HM.out.bel hbd)).mono ?_
          rintro e w7 ⟨sp, us, B5, k, c', ok, rfl, hus, hul, hres, hb7⟩
          have HRES := Lib.hid hres
          have hbc := bel_then hbd hb7
          refine hK.out _ _ hbc (fun hHeld7 => ?_)
          clear hK K hres
          refine wpAnyH_take (i := 7) (oi := ⟨some 33, Op.move (Operand.tmp 40), 129, "ref.go:103", #[⟨6, Ground.data⟩], none⟩) (v := .tuple #[.agg #[.int .i64 sp.bit, .int .i64 sp.bits, .int .i64 sp.k], .slice B5 k c', .bool ok]) rfl (by kernel_rfl) (by kernel_rfl) (by kernel_rfl) (fun _ _ _ h => h) (Or.inl ⟨by rfl, fun w' hw' => ?_⟩) (by assumption) ?_
          · skip
            go_simp
          simp only [Act.put, List.setIfInBounds_toArray, List.set_cons_zero, List.set_cons_succ]
          refine wpAnyH_take (i := 8) (oi := ⟨some 41, Op.extract (Operand.tmp 33) 0, 48, "ref.go:103", #[⟨7, Ground.data⟩], none⟩) (v := .agg #[.int .i64 sp.bit, .int .i64 sp.bits, .int .i64 sp.k]) rfl (by kernel_rfl) (by kernel_rfl) (by kernel_rfl) (fun _ _ _ h => h) (Or.inl ⟨by rfl, fun w' hw' => ?_⟩) (by assumption) ?_
          · skip
            go_simp
          simp only [Act.put, List.setIfInBounds_toArray, List.set_cons_zero, List.set_cons_succ]
          refine wpAnyH_take (i := 9) (oi := ⟨some 42, Op.extract (Operand.tmp 33) 1, 128, "ref.go:103", #[⟨7, Ground.data⟩, { on := 12, ground := Ground.gcOnly Departure.lateStores }], none⟩) (v := .slice B5 k c') rfl (by kernel_rfl) (by kernel_rfl) (by kernel_rfl) (fun _ _ _ h => h) (Or.inl ⟨by rfl, fun w' hw' => ?_⟩) (by assumption) ?_
          · skip
            go_simp
          simp only [Act.put, List.setIfInBounds_toArray, List.set_cons_zero, List.set_cons_succ]
          refine wpAnyH_take (i := 10) (oi := ⟨some 43, Op.extract (Operand.tmp 33) 2, 4, "ref.go:103", #[⟨7, Ground.data⟩, { on := 13, ground := Ground.gcOnly Departure.lateStores }], none⟩) (v := .bool ok) rfl (by kernel_rfl) (by kernel_rfl) (by kernel_rfl) (fun _ _ _ h => h) (Or.inl ⟨by rfl, fun w' hw' => ?_⟩) (by assumption) ?_
          · skip
            go_simp
          simp only [Act.put, List.setIfInBounds_toArray, List.set_cons_zero, List.set_cons_succ]
          refine wpAnyH_ready (rs := [11]) (by kernel_rfl) (by simp) ?_
          refine AllReadyH.cons (o := ⟨some 12, Op.alloc 48, 0, "ref.go:103", #[], none⟩) rfl (fun K hK => ?_) AllReadyH.nil
          go_simp
          have hbw := bel_alloc hbc (.cells #[.int .i64 0, .int .i64 0, .int .i64 0] 48)
          refine hK.out _ _ hbw (fun hHeld8 => ?_)
          clear hK K
          have h18 := Bk.new w7 48 #[.int .i64 0, .int .i64 0, .int .i64 0]
          have hsz7 := hbc.size
          have hsa := hus.1.below (bel_set (bel_set (bel_set (bel_alloc (Below.refl _ w7) (.cells #[.int .i64 0, .int .i64 0, .int .i64 0] 48)) (p := ⟨w7.heap.size, 0, none⟩) (Nat.le_refl _) (.int .i64 sp.bit)) (p := ⟨w7.heap.size, 1, none⟩) (Nat.le_refl _) (.int .i64 sp.bits)) (p := ⟨w7.heap.size, 2, none⟩) (Nat.le_refl _) (.int .i64 sp.k))
          have hfar : ∀ a, B5 = some a → a.block ≠ gb := fun a ha => by have := hus.2 a ha; omega
          generalize hgg : w7.heap.size = G12 at h18 hsz7 hsa ⊢
          generalize World.alloc w7 _ = W8 at h18 hsa hbw hHeld8 ⊢
          refine wpAnyH_ready (rs := [12]) (by kernel_rfl) (by simp) ?_
          refine AllReadyH.cons (o := ⟨none, Op.store 48 (Operand.tmp 12) (Operand.tmp 41), 0, "ref.go:103", #[⟨11, Ground.data⟩, ⟨8, Ground.data⟩, ⟨6, Ground.chain⟩, ⟨0, Ground.phase⟩, ⟨1, Ground.phase⟩, ⟨2, Ground.phase⟩, ⟨3, Ground.phase⟩, ⟨4, Ground.phase⟩, ⟨5, Ground.phase⟩, ⟨6, Ground.phase⟩, ⟨7, Ground.phase⟩, ⟨8, Ground.phase⟩, { on := 9, ground := Ground.textOnly Departure.lateStores }, { on := 10, ground := Ground.textOnly Departure.lateStores }, ⟨11, Ground.phase⟩], none⟩) rfl (fun K hK => ?_) AllReadyH.nil
          have f80 := h18.frozen 0; have f81 := h18.frozen 1; have f82 := h18.frozen 2
          have u80 := h18.at_ (i := 0) rfl; have u81 := h18.at_ (i := 1) rfl; have u82 := h18.at_ (i := 2) rfl
          go_simp
          refine hK.out _ _ (bel_set (bel_set (bel_set hbw (by dsimp only; omega) _) (by dsimp only; omega) _) (by dsimp only; omega) _) (fun hHeld8 => ?_)
          clear hK K f80 f81 f82 u80 u81 u82
          refine wpAnyH_take (i := 13) (oi := ⟨some 13, Op.assign (Operand.tmp 42), 128, "ref.go:103", #[⟨9, Ground.data⟩, ⟨12, Ground.chain⟩, ⟨0, Ground.phase⟩, ⟨1, Ground.phase⟩, ⟨2, Ground.phase⟩, ⟨3, Ground.phase⟩, ⟨4, Ground.phase⟩, ⟨5, Ground.phase⟩, ⟨6, Ground.phase⟩, ⟨7, Ground.phase⟩, ⟨8, Ground.phase⟩, ⟨9, Ground.phase⟩, { on := 10, ground := Ground.textOnly Departure.lateStores }, ⟨11, Ground.phase⟩, ⟨12, Ground.phase⟩], none⟩) (v := .slice B5 k c') rfl (by kernel_rfl) (by kernel_rfl) (by kernel_rfl) (fun _ _ _ h => h) (Or.inl ⟨by rfl, fun w' hw' => ?_⟩) (by assumption) ?_
          · skip
            go_simp
          simp only [Act.put, List.setIfInBounds_toArray, List.set_cons_zero, List.set_cons_succ]
          refine wpAnyH_take (i := 14) (oi := ⟨some 14, Op.assign (Operand.tmp 43), 4, "ref.go:103", #[⟨10, Ground.data⟩, ⟨13, Ground.chain⟩, ⟨0, Ground.phase⟩, ⟨1, Ground.phase⟩, ⟨2, Ground.phase⟩, ⟨3, Ground.phase⟩, ⟨4, Ground.phase⟩, ⟨5, Ground.phase⟩, ⟨6, Ground.phase⟩, ⟨7, Ground.phase⟩, ⟨8, Ground.phase⟩, ⟨9, Ground.phase⟩, ⟨10, Ground.phase⟩, ⟨11, Ground.phase⟩, ⟨12, Ground.phase⟩, ⟨13, Ground.phase⟩], none⟩) (v := .bool ok) rfl (by kernel_rfl) (by kernel_rfl) (by kernel_rfl) (fun _ _ _ h => h) (Or.inl ⟨by rfl, fun w' hw' => ?_⟩) (by assumption) ?_
          · skip
            go_simp
          simp only [Act.put, List.setIfInBounds_toArray, List.set_cons_zero, List.set_cons_succ]
          refine wpAnyH_done (by kernel_rfl) ?_ _
          have h12 := fin3 h18 (.int .i64 sp.bit) (.int .i64 sp.bits) (.int .i64 sp.k)
          have hgG : gb < G12 := by omega
          have HSA := Lib.hid hsa
          have HFAR := Lib.hid hfar
          have HUL := Lib.hid hul
          have HRS := Lib.hid HRES.out
          generalize World.setCell (World.setCell (World.setCell W8 _ _) _ _) _ _ = W9 at h12 HSA hHeld8 ⊢
          clear hus hul h18 hsa hbw hgg hfar HRES hbc hHeld7 hb7 hbd hgwd hsz7
          have HM9 := Lib.hid (HM.out.below hHeld8)
          have H12 := Lib.hid h12
          clear h12 hHeld8
          cases ok with
          | false =>
            have hws : walkS d t 0 0 p = none := by
              rcases HRS.out with ⟨h, _⟩ | ⟨_, h⟩
              · cases h
              · exact h
            obtain ⟨k1, k2, k3⟩ := mk_path HER.out (fail_some HALL.out HXX.out hws)
            obtain rfl : V = ⟨#[]⟩ := by rw [← HV.out]; exact k3
            obtain rfl : E = 110 := by rw [← HE.out]; exact k1
            obtain rfl : I = (j : Int) := by rw [← HI.out]; exact k2
            clear k1 k2 k3 hws HSN
            go_wp2_with fail
            go_ret3
            exact ⟨rfl, HM9.out.bel⟩
          | true =>
            have hws : walkS d t 0 0 p = some (sp, us) := by
              rcases HRS.out with ⟨_, h⟩ | ⟨h, _⟩
              · exact h
              · cases h
            obtain ⟨k1, k2, k3, k4⟩ := walk_rng HQ1.out HQ2.out hws
            have hrg := stp_rng d t 0 0 p sp us _ HQ1.out HQ2.out hws
            rw [HN.out] at k4 hrg
            have hset : set1 d t st (p, xv) = (wrS (us.foldl thr1 st).1 sp.bit.toNat (xv % 18446744073709551616).toNat sp.bits.toNat, (us.foldl thr1 st).2) := by
              unfold set1
              simp only
              rw [hws]
            have hsn := HSN.out
            rw [hset] at hsn
            have HWS := Lib.hid hws
            have HRG := Lib.hid hrg
            obtain ⟨bt, bs, e4, e5, e6, e7, e8⟩ : ∃ bt bs : Nat, sp.bit = (bt : Int) ∧ sp.bits = (bs : Int) ∧ 1 ≤ bs ∧ bs ≤ 64 ∧ bt + bs ≤ 8 * n := ⟨sp.bit.toNat, sp.bits.toNat, by omega, by omega, by omega, by omega, by omega⟩
            obtain ⟨u, hu⟩ : ∃ u : Nat, xv % 18446744073709551616 = (u : Int) := ⟨(xv % 18446744073709551616).toNat, by omega⟩
            rw [e4, e5, hu, Int.toNat_natCast, Int.toNat_natCast, Int.toNat_natCast] at hsn
            obtain ⟨sk, hsk⟩ : ∃ y, sp.k = y := ⟨_, rfl⟩
            rw [e4, e5, hsk] at H12
            have HSN2 := Lib.hid hsn
            have HU := Lib.hid hu
            obtain rfl : k = us.length := HSA.out.1
            have hul6 := HUL.out
            clear hws hrg hsn hset hu hsk HSN k1 k2 k3 k4
            rw [e4, e5]
            clear e4 e5
            go_upto_region 13 with (fail)
            go_wp2_with fail
            go_loopw [10, 15] (fun s10 s15 wr => ∃ i : Nat, i ≤ us.length ∧ s15 = .int .i64 i ∧ Gx gb W9 wr ∧ ∃ (B : Option Addr) (nM cM : Nat) (M : List Stp), s10 = .slice B nM cM ∧ nM ≤ cM ∧ nM ≤ 6 * j + i ∧ RmM w gb n v0 v1 v2 v3 v4 v5 v6 ((us.take i).foldl thr1 st) M B nM wr) (fun _ i _ => us.length - (intOf i).toNat)
            case atStart => exact ⟨0, Nat.zero_le _, rfl, Gx.refl _ _, B, nM, cM, M, rfl, hnc, by omega, HM9.out⟩
            case round =>
              clear HM9
              obtain ⟨i, hi, rfl, hgx, B6, nM6, cM6, M6, rfl, hnc6, hnj6, hMi⟩ := hrel
              have hstp := HSA.out.gx hgx HFAR.out
              have h12 := hgx.bk H12.out (by omega)
              have HGX := Lib.hid hgx
              clear hgx
              obtain ⟨wp, rfl⟩ : ∃ wp : World, wp = wr := ⟨_, rfl⟩
              by_cases hil : i < us.length
              · obtain ⟨s, hs⟩ : ∃ s, us[i]? = some s := ⟨_, List.getElem?_eq_getElem hil⟩
                obtain ⟨ub, uo, rfl, a0, a1, a2, a3⟩ := hstp.2 i s hs
                obtain ⟨g1, g2, g3⟩ := HRG.out s (List.mem_of_getElem? hs)
                have hsn := thr_snoc (us.take i) st s
                rw [← take_snoc_of hs] at hsn
                obtain ⟨sti, hsti⟩ : ∃ y, (us.take i).foldl thr1 st = y := ⟨_, rfl⟩
                rw [hsti] at hsn hMi
                have HSI := Lib.hid hsn
                have HTR := through_c gb n sti.1 [] B6 nM6 cM6 M6 s wp hMi.by_ hMi.at_ (by omega) hnc6 (by rw [hMi.len]; omega) (by omega) g2 (by rw [hMi.len]; omega)
                rw [hMi.len] at HTR
                replace HTR := Lib.hid HTR
                have HMI := Lib.hid hMi
                have hrs : s.from_.toNat + s.size.toNat ≤ n := by omega
                clear hsn hs hsti hstp hMi h12
                go_wp2_with fail
                refine HTR.out.mono ?_
                rintro e w5 ⟨B7, n7, c7, rfl, hn7, hc7, hst7, hby7, hgx7⟩
                have HM7 := Lib.hid (HMI.out.thr (by omega) s hrs hst7 hby7 hgx7)
                have HG7 := Lib.hid (HGX.out.trans hgx7)
                clear hst7 hby7 hgx7 a0 a1 a2 a3
                go_wp2_with fail
                go_roundw
                case rel => exact ⟨i + 1, by omega, by go_num, HG7.out, B7, n7, c7, metM M6 s, rfl, hc7, by omega, by rw [HSI.out]; exact HM7.out⟩
                case measure => simp [intOf]; omega
              · obtain rfl : i = us.length := by omega
                rw [List.take_length] at hMi
                obtain ⟨st', hst'⟩ : ∃ y, us.foldl thr1 st = y := ⟨_, rfl⟩
                have hsn := HSN2.out
                rw [hst'] at hMi hsn
                have HWR := rwrite_c gb n st'.1 [] bt bs sk xv u wp.drew (hMi.by_.of_block rfl) hMi.lt (by rw [hMi.len]; exact e8) (by rw [hMi.len]; omega) e7 HU.out
                rw [hMi.len] at HWR
                replace HWR := Lib.hid HWR
                have HMI := Lib.hid hMi
                have HS2 := Lib.hid hsn
                have HC1W := Lib.hid (bel_cell hMi.bel HC1.out)
                have HA2 := Lib.hid (show ∀ x ∈ l.take (j + 1), (walkS d t 0 0 x.1).isSome = true from fun y hy => by
                  rw [List.take_add_one, HXX.out] at hy
                  rcases List.mem_append.1 hy with h | h
                  · exact HALL.out y h
                  · simp at h
                    subst h
                    simp only
                    rw [HWS.out]
                    rfl)
                have hbn : sb' ≠ gb := by omega
                replace H12 := Lib.hid h12
                clear hMi hsn hst' h12 hstp
                go_upto_region 16 with (fail)
                refine wp_region_held_drew (S := fun W' => Gx gb wp W') (by kernel_rfl) ⟨rfl, rfl, rfl, Nat.le_refl _, fun _ _ _ => rfl⟩ (fun hHeld => ?_)
                refine wpAnyH_take (i := 0) (oi := ⟨some 60, Op.move (Operand.tmp 9), 75, "ref.go:110", #[], none⟩) (v := .slice (some ⟨gb, 0, none⟩) n n) rfl (by kernel_rfl) (by kernel_rfl) (by kernel_rfl) (fun _ _ _ h => h) (Or.inl ⟨by rfl, fun w' hw' => ?_⟩) (by assumption) ?_
                · skip
                  go_simp
                simp only [Act.put, List.setIfInBounds_toArray, List.set_cons_zero, List.set_cons_succ]
                refine wpAnyH_take (i := 1) (oi := ⟨some 61, Op.load 48 (Operand.tmp 12), 48, "ref.go:110", #[], none⟩) (v := .agg #[.int .i64 bt, .int .i64 bs, .int .i64 sk]) rfl (by kernel_rfl) (by kernel_rfl) (by kernel_rfl) (fun _ _ _ h => h) (Or.inl ⟨by rfl, fun w' hw' => ?_⟩) (by assumption) ?_
                · have hk2 := hw'.bk H12.out (by omega)
                  have r0 := hk2.at_ (i := 0) rfl; have r1 := hk2.at_ (i := 1) rfl; have r2 := hk2.at_ (i := 2) rfl
                  go_simp
                simp only [Act.put, List.setIfInBounds_toArray, List.set_cons_zero, List.set_cons_succ]
                refine wpAnyH_take (i := 2) (oi := ⟨some 62, Op.move (Operand.tmp 1), 64, "ref.go:110", #[], none⟩) (v := .slice (some ⟨sb', so, none⟩) l.length c) rfl (by kernel_rfl) (by kernel_rfl) (by kernel_rfl) (fun _ _ _ h => h) (Or.inl ⟨by rfl, fun w' hw' => ?_⟩) (by assumption) ?_
                · skip
                  go_simp
                simp only [Act.put, List.setIfInBounds_toArray, List.set_cons_zero, List.set_cons_succ]
                refine wpAnyH_take (i := 3) (oi := ⟨some 63, Op.move (Operand.tmp 11), 3, "ref.go:110", #[], none⟩) (v := .int .i64 j) rfl (by kernel_rfl) (by kernel_rfl) (by kernel_rfl) (fun _ _ _ h => h) (Or.inl ⟨by rfl, fun w' hw' => ?_⟩) (by assumption) ?_
                · skip
                  go_simp
                simp only [Act.put, List.setIfInBounds_toArray, List.set_cons_zero, List.set_cons_succ]
                refine wpAnyH_take (i := 4) (oi := ⟨some 64, Op.indexAddr 64 (Operand.tmp 62) (Operand.tmp 63), 0, "ref.go:110", #[⟨2, Ground.data⟩, ⟨3, Ground.data⟩], none⟩) (v := .pointer (some ⟨sb', so + j * 2, none⟩)) rfl (by kernel_rfl) (by kernel_rfl) (by kernel_rfl) (fun _ _ _ h => h) (Or.inl ⟨by rfl, fun w' hw' => ?_⟩) (by assumption) ?_
                · skip
                  go_simp
                simp only [Act.put, List.setIfInBounds_toArray, List.set_cons_zero, List.set_cons_succ]
                refine wpAnyH_take (i := 5) (oi := ⟨some 65, Op.fieldAddr 77 (Operand.tmp 64) 1, 0, "ref.go:110", #[⟨4, Ground.data⟩], none⟩) (v := .pointer (some ⟨sb', so + j * 2 + 1, none⟩)) rfl (by kernel_rfl) (by kernel_rfl) (by kernel_rfl) (fun _ _ _ h => h) (Or.inl ⟨by rfl, fun w' hw' => ?_⟩) (by assumption) ?_
                · skip
                  go_simp
                simp only [Act.put, List.setIfInBounds_toArray, List.set_cons_zero, List.set_cons_succ]
                refine wpAnyH_take (i := 6) (oi := ⟨some 66, Op.load 2 (Operand.tmp 65), 2, "ref.go:110", #[⟨5, Ground.data⟩], none⟩) (v := .int .i64 xv) rfl (by kernel_rfl) (by kernel_rfl) (by kernel_rfl) (fun _ _ _ h => h) (Or.inl ⟨by rfl, fun w' hw' => ?_⟩) (by assumption) ?_
                · have r1 := hw'.cell HC1W.out (by dsimp only; omega)
                  go_simp
                simp only [Act.put, List.setIfInBounds_toArray, List.set_cons_zero, List.set_cons_succ]
                refine wpAnyH_ready (rs := [7]) (by kernel_rfl) (by simp) ?_
                refine AllReadyH.cons (o := ⟨some 67, Op.call { callee := Callee.value (Operand.func 94), args := #[Operand.tmp 60, Operand.tmp 61, Operand.tmp 66], argTypes := #[75, 48, 2] }, 0, "ref.go:110", #[⟨0, Ground.data⟩, ⟨1, Ground.data⟩, ⟨6, Ground.data⟩], none⟩) rfl (fun K hK => ?_) AllReadyH.nil
                go_simp
                refine HWR.out.mono ?_
                rintro e w6 ⟨⟨r, rfl⟩, hby6, hgx⟩
                have hgx2 : Gx gb wp w6 := (show Gx gb wp wp.drew from ⟨rfl, rfl, rfl, Nat.le_refl _, fun _ _ _ => rfl⟩).trans hgx
                refine hK.out _ _ hgx2 (fun hHeld6 => ?_)
                clear hK K
                have HM6 := Lib.hid (HMI.out.write (by omega) e8 hby6 hgx2)
                refine wpAnyH_done (by kernel_rfl) ?_ _
                clear hby6 hgx hgx2 hHeld6 hHeld
                go_wp2_with fail
                go_roundw
                case rel => exact ⟨j + 1, by omega, by go_num, HA2.out, B6, nM6, cM6, M6, rfl, hnc6, by omega, by rw [HS2.out]; exact HM6.out⟩
                case measure => simp [intOf]; omega
        refine AllReadyH.cons (o := ⟨some 12, Op.alloc 48, 0, "ref.go:103", #[], none⟩) rfl (fun K hK => ?_) AllReadyH.nil
        go_simp
        have hba := bel_alloc hbd (.cells #[.int .i64 0, .int .i64 0, .int .i64 0] 48)
        refine hK.out _ _ hba (fun hHeld7 => ?_)
        clear hK K
        have h18a := Bk.new Wd 48 #[.int .i64 0, .int .i64 0, .int .i64 0]
        generalize hgg : Wd.heap.size = G12 at h18a ⊢
        generalize World.alloc Wd _ = Wa at h18a hba hHeld7 ⊢
        clear hHeld7
        refine wpAnyH_ready (rs := [6]) (by kernel_rfl) (by simp) ?_
        refine AllReadyH.cons (o := ⟨some 40, Op.call { callee := Callee.value (Operand.func 92), args := #[Operand.tmp 34, Operand.const (Value.int IntKind.i64 0), Operand.const (Value.int IntKind.i64 0), Operand.tmp 39], argTypes := #[38, 2, 3, 39] }, 129, "ref.go:103", #[⟨0, Ground.data⟩, ⟨5, Ground.data⟩], none⟩) rfl (fun K hK => ?_) AllReadyH.nil
        go_simp
        refine (HF.out Wa (bel_then HM.out.bel hba)).mono ?_
        rintro e w7 ⟨sp, us, B5, k, c', ok, rfl, hus, hul, hres, hb7⟩
        have HRES := Lib.hid hres
        have hbc := bel_then hba hb7
        refine hK.out _ _ hbc (fun hHeld7 => ?_)
        clear hK K hres
        have h18 := h18a.below hb7 h18a.lt
        have hla := h18a.lt
        have hsz6 := hbd.size
        have hbw := hbc
        have hsa := (((hus.set_ hla 0 (.int .i64 sp.bit)).set_ hla 1 (.int .i64 sp.bits)).set_ hla 2 (.int .i64 sp.k)).1
        have hfar : ∀ a, B5 = some a → a.block ≠ gb := fun a ha => by have := hus.2 a ha; omega
        refine wpAnyH_take (i := 7) (oi := ⟨some 33, Op.move (Operand.tmp 40), 129, "ref.go:103", #[⟨6, Ground.data⟩], none⟩) (v := .tuple #[.agg #[.int .i64 sp.bit, .int .i64 sp.bits, .int .i64 sp.k], .slice B5 k c', .bool ok]) rfl (by kernel_rfl) (by kernel_rfl) (by kernel_rfl) (fun _ _ _ h => h) (Or.inl ⟨by rfl, fun w' hw' => ?_⟩) (by assumption) ?_
        · skip
          go_simp
        simp only [Act.put, List.setIfInBounds_toArray, List.set_cons_zero, List.set_cons_succ]
        refine wpAnyH_take (i := 8) (oi := ⟨some 41, Op.extract (Operand.tmp 33) 0, 48, "ref.go:103", #[⟨7, Ground.data⟩], none⟩) (v := .agg #[.int .i64 sp.bit, .int .i64 sp.bits, .int .i64 sp.k]) rfl (by kernel_rfl) (by kernel_rfl) (by kernel_rfl) (fun _ _ _ h => h) (Or.inl ⟨by rfl, fun w' hw' => ?_⟩) (by assumption) ?_
        · skip
          go_simp
        simp only [Act.put, List.setIfInBounds_toArray, List.set_cons_zero, List.set_cons_succ]
        refine wpAnyH_take (i := 9) (oi := ⟨some 42, Op.extract (Operand.tmp 33) 1, 128, "ref.go:103", #[⟨7, Ground.data⟩, { on := 12, ground := Ground.gcOnly Departure.lateStores }], none⟩) (v := .slice B5 k c') rfl (by kernel_rfl) (by kernel_rfl) (by kernel_rfl) (fun _ _ _ h => h) (Or.inl ⟨by rfl, fun w' hw' => ?_⟩) (by assumption) ?_
        · skip
          go_simp
        simp only [Act.put, List.setIfInBounds_toArray, List.set_cons_zero, List.set_cons_succ]
        refine wpAnyH_take (i := 10) (oi := ⟨some 43, Op.extract (Operand.tmp 33) 2, 4, "ref.go:103", #[⟨7, Ground.data⟩, { on := 13, ground := Ground.gcOnly Departure.lateStores }], none⟩) (v := .bool ok) rfl (by kernel_rfl) (by kernel_rfl) (by kernel_rfl) (fun _ _ _ h => h) (Or.inl ⟨by rfl, fun w' hw' => ?_⟩) (by assumption) ?_
        · skip
          go_simp
        simp only [Act.put, List.setIfInBounds_toArray, List.set_cons_zero, List.set_cons_succ]
        refine wpAnyH_ready (rs := [12]) (by kernel_rfl) (by simp) ?_
        refine AllReadyH.cons (o := ⟨none, Op.store 48 (Operand.tmp 12) (Operand.tmp 41), 0, "ref.go:103", #[⟨11, Ground.data⟩, ⟨8, Ground.data⟩, ⟨6, Ground.chain⟩, ⟨0, Ground.phase⟩, ⟨1, Ground.phase⟩, ⟨2, Ground.phase⟩, ⟨3, Ground.phase⟩, ⟨4, Ground.phase⟩, ⟨5, Ground.phase⟩, ⟨6, Ground.phase⟩, ⟨7, Ground.phase⟩, ⟨8, Ground.phase⟩, { on := 9, ground := Ground.textOnly Departure.lateStores }, { on := 10, ground := Ground.textOnly Departure.lateStores }, ⟨11, Ground.phase⟩], none⟩) rfl (fun K hK => ?_) AllReadyH.nil
        have f80 := h18.frozen 0; have f81 := h18.frozen 1; have f82 := h18.frozen 2
        have u80 := h18.at_ (i := 0) rfl; have u81 := h18.at_ (i := 1) rfl; have u82 := h18.at_ (i := 2) rfl
        go_simp
        refine hK.out _ _ (bel_set (bel_set (bel_set hbw (by dsimp only; omega) _) (by dsimp only; omega) _) (by dsimp only; omega) _) (fun hHeld8 => ?_)
        clear hK K f80 f81 f82 u80 u81 u82
        refine wpAnyH_take (i := 13) (oi := ⟨some 13, Op.assign (Operand.tmp 42), 128, "ref.go:103", #[⟨9, Ground.data⟩, ⟨12, Ground.chain⟩, ⟨0, Ground.phase⟩, ⟨1, Ground.phase⟩, ⟨2, Ground.phase⟩, ⟨3, Ground.phase⟩, ⟨4, Ground.phase⟩, ⟨5, Ground.phase⟩, ⟨6, Ground.phase⟩, ⟨7, Ground.phase⟩, ⟨8, Ground.phase⟩, ⟨9, Ground.phase⟩, { on := 10, ground := Ground.textOnly Departure.lateStores }, ⟨11, Ground.phase⟩, ⟨12, Ground.phase⟩], none⟩) (v := .slice B5 k c') rfl (by kernel_rfl) (by kernel_rfl) (by kernel_rfl) (fun _ _ _ h => h) (Or.inl ⟨by rfl, fun w' hw' => ?_⟩) (by assumption) ?_
        · skip
          go_simp
        simp only [Act.put, List.setIfInBounds_toArray, List.set_cons_zero, List.set_cons_succ]
        refine wpAnyH_take (i := 14) (oi := ⟨some 14, Op.assign (Operand.tmp 43), 4, "ref.go:103", #[⟨10, Ground.data⟩, ⟨13, Ground.chain⟩, ⟨0, Ground.phase⟩, ⟨1, Ground.phase⟩, ⟨2, Ground.phase⟩, ⟨3, Ground.phase⟩, ⟨4, Ground.phase⟩, ⟨5, Ground.phase⟩, ⟨6, Ground.phase⟩, ⟨7, Ground.phase⟩, ⟨8, Ground.phase⟩, ⟨9, Ground.phase⟩, ⟨10, Ground.phase⟩, ⟨11, Ground.phase⟩, ⟨12, Ground.phase⟩, ⟨13, Ground.phase⟩], none⟩) (v := .bool ok) rfl (by kernel_rfl) (by kernel_rfl) (by kernel_rfl) (fun _ _ _ h => h) (Or.inl ⟨by rfl, fun w' hw' => ?_⟩) (by assumption) ?_
        · skip
          go_simp
        simp only [Act.put, List.setIfInBounds_toArray, List.set_cons_zero, List.set_cons_succ]
        refine wpAnyH_done (by kernel_rfl) ?_ _
        have h12 := fin3 h18 (.int .i64 sp.bit) (.int .i64 sp.bits) (.int .i64 sp.k)
        have hgG : gb < G12 := by omega
        have HSA := Lib.hid hsa
        have HFAR := Lib.hid hfar
        have HUL := Lib.hid hul
        have HRS := Lib.hid HRES.out
        generalize World.setCell (World.setCell (World.setCell w7 _ _) _ _) _ _ = W9 at h12 HSA hHeld8 ⊢
        clear hus hul h18 hsa hbw hgg hfar HRES hbc hHeld7 hb7 hbd hgwd hsz6 hla h18a hba
        have HM9 := Lib.hid (HM.out.below hHeld8)
        have H12 := Lib.hid h12
        clear h12 hHeld8
        cases ok with
        | false =>
          have hws : walkS d t 0 0 p = none := by
            rcases HRS.out with ⟨h, _⟩ | ⟨_, h⟩
            · cases h
            · exact h
          obtain ⟨k1, k2, k3⟩ := mk_path HER.out (fail_some HALL.out HXX.out hws)
          obtain rfl : V = ⟨#[]⟩ := by rw [← HV.out]; exact k3
          obtain rfl : E = 110 := by rw [← HE.out]; exact k1
          obtain rfl : I = (j : Int) := by rw [← HI.out]; exact k2
          clear k1 k2 k3 hws HSN
          go_wp2_with fail
          go_ret3
          exact ⟨rfl, HM9.out.bel⟩
        | true =>
          have hws : walkS d t 0 0 p = some (sp, us) := by
            rcases HRS.out with ⟨_, h⟩ | ⟨h, _⟩
            · exact h
            · cases h
          obtain ⟨k1, k2, k3, k4⟩ := walk_rng HQ1.out HQ2.out hws
          have hrg := stp_rng d t 0 0 p sp us _ HQ1.out HQ2.out hws
          rw [HN.out] at k4 hrg
          have hset : set1 d t st (p, xv) = (wrS (us.foldl thr1 st).1 sp.bit.toNat (xv % 18446744073709551616).toNat sp.bits.toNat, (us.foldl thr1 st).2) := by
            unfold set1
            simp only
            rw [hws]
          have hsn := HSN.out
          rw [hset] at hsn
          have HWS := Lib.hid hws
          have HRG := Lib.hid hrg
          obtain ⟨bt, bs, e4, e5, e6, e7, e8⟩ : ∃ bt bs : Nat, sp.bit = (bt : Int) ∧ sp.bits = (bs : Int) ∧ 1 ≤ bs ∧ bs ≤ 64 ∧ bt + bs ≤ 8 * n := ⟨sp.bit.toNat, sp.bits.toNat, by omega, by omega, by omega, by omega, by omega⟩
          obtain ⟨u, hu⟩ : ∃ u : Nat, xv % 18446744073709551616 = (u : Int) := ⟨(xv % 18446744073709551616).toNat, by omega⟩
          rw [e4, e5, hu, Int.toNat_natCast, Int.toNat_natCast, Int.toNat_natCast] at hsn
          obtain ⟨sk, hsk⟩ : ∃ y, sp.k = y := ⟨_, rfl⟩
          rw [e4, e5, hsk] at H12
          have HSN2 := Lib.hid hsn
          have HU := Lib.hid hu
          obtain rfl : k = us.length := HSA.out.1
          have hul6 := HUL.out
          clear hws hrg hsn hset hu hsk HSN k1 k2 k3 k4
          rw [e4, e5]
          clear e4 e5
          go_upto_region 13 with (fail)
          go_wp2_with fail
          go_loopw [10, 15] (fun s10 s15 wr => ∃ i : Nat, i ≤ us.length ∧ s15 = .int .i64 i ∧ Gx gb W9 wr ∧ ∃ (B : Option Addr) (nM cM : Nat) (M : List Stp), s10 = .slice B nM cM ∧ nM ≤ cM ∧ nM ≤ 6 * j + i ∧ RmM w gb n v0 v1 v2 v3 v4 v5 v6 ((us.take i).foldl thr1 st) M B nM wr) (fun _ i _ => us.length - (intOf i).toNat)
          case atStart => exact ⟨0, Nat.zero_le _, rfl, Gx.refl _ _, B, nM, cM, M, rfl, hnc, by omega, HM9.out⟩
          case round =>
            clear HM9
            obtain ⟨i, hi, rfl, hgx, B6, nM6, cM6, M6, rfl, hnc6, hnj6, hMi⟩ := hrel
            have hstp := HSA.out.gx hgx HFAR.out
            have h12 := hgx.bk H12.out (by omega)
            have HGX := Lib.hid hgx
            clear hgx
            obtain ⟨wp, rfl⟩ : ∃ wp : World, wp = wr := ⟨_, rfl⟩
            by_cases hil : i < us.length
            · obtain ⟨s, hs⟩ : ∃ s, us[i]? = some s := ⟨_, List.getElem?_eq_getElem hil⟩
              obtain ⟨ub, uo, rfl, a0, a1, a2, a3⟩ := hstp.2 i s hs
              obtain ⟨g1, g2, g3⟩ := HRG.out s (List.mem_of_getElem? hs)
              have hsn := thr_snoc (us.take i) st s
              rw [← take_snoc_of hs] at hsn
              obtain ⟨sti, hsti⟩ : ∃ y, (us.take i).foldl thr1 st = y := ⟨_, rfl⟩
              rw [hsti] at hsn hMi
              have HSI := Lib.hid hsn
              have HTR := through_c gb n sti.1 [] B6 nM6 cM6 M6 s wp hMi.by_ hMi.at_ (by omega) hnc6 (by rw [hMi.len]; omega) (by omega) g2 (by rw [hMi.len]; omega)
              rw [hMi.len] at HTR
              replace HTR := Lib.hid HTR
              have HMI := Lib.hid hMi
              have hrs : s.from_.toNat + s.size.toNat ≤ n := by omega
              clear hsn hs hsti hstp hMi h12
              go_wp2_with fail
              refine HTR.out.mono ?_
              rintro e w5 ⟨B7, n7, c7, rfl, hn7, hc7, hst7, hby7, hgx7⟩
              have HM7 := Lib.hid (HMI.out.thr (by omega) s hrs hst7 hby7 hgx7)
              have HG7 := Lib.hid (HGX.out.trans hgx7)
              clear hst7 hby7 hgx7 a0 a1 a2 a3
              go_wp2_with fail
              go_roundw
              case rel => exact ⟨i + 1, by omega, by go_num, HG7.out, B7, n7, c7, metM M6 s, rfl, hc7, by omega, by rw [HSI.out]; exact HM7.out⟩
              case measure => simp [intOf]; omega
            · obtain rfl : i = us.length := by omega
              rw [List.take_length] at hMi
              obtain ⟨st', hst'⟩ : ∃ y, us.foldl thr1 st = y := ⟨_, rfl⟩
              have hsn := HSN2.out
              rw [hst'] at hMi hsn
              have HWR := rwrite_c gb n st'.1 [] bt bs sk xv u wp.drew (hMi.by_.of_block rfl) hMi.lt (by rw [hMi.len]; exact e8) (by rw [hMi.len]; omega) e7 HU.out
              rw [hMi.len] at HWR
              replace HWR := Lib.hid HWR
              have HMI := Lib.hid hMi
              have HS2 := Lib.hid hsn
              have HC1W := Lib.hid (bel_cell hMi.bel HC1.out)
              have HA2 := Lib.hid (show ∀ x ∈ l.take (j + 1), (walkS d t 0 0 x.1).isSome = true from fun y hy => by
                rw [List.take_add_one, HXX.out] at hy
                rcases List.mem_append.1 hy with h | h
                · exact HALL.out y h
                · simp at h
                  subst h
                  simp only
                  rw [HWS.out]
                  rfl)
              have hbn : sb' ≠ gb := by omega
              replace H12 := Lib.hid h12
              clear hMi hsn hst' h12 hstp
              go_upto_region 16 with (fail)
              refine wp_region_held_drew (S := fun W' => Gx gb wp W') (by kernel_rfl) ⟨rfl, rfl, rfl, Nat.le_refl _, fun _ _ _ => rfl⟩ (fun hHeld => ?_)
              refine wpAnyH_take (i := 0) (oi := ⟨some 60, Op.move (Operand.tmp 9), 75, "ref.go:110", #[], none⟩) (v := .slice (some ⟨gb, 0, none⟩) n n) rfl (by kernel_rfl) (by kernel_rfl) (by kernel_rfl) (fun _ _ _ h => h) (Or.inl ⟨by rfl, fun w' hw' => ?_⟩) (by assumption) ?_
              · skip
                go_simp
              simp only [Act.put, List.setIfInBounds_toArray, List.set_cons_zero, List.set_cons_succ]
              refine wpAnyH_take (i := 1) (oi := ⟨some 61, Op.load 48 (Operand.tmp 12), 48, "ref.go:110", #[], none⟩) (v := .agg #[.int .i64 bt, .int .i64 bs, .int .i64 sk]) rfl (by kernel_rfl) (by kernel_rfl) (by kernel_rfl) (fun _ _ _ h => h) (Or.inl ⟨by rfl, fun w' hw' => ?_⟩) (by assumption) ?_
              · have hk2 := hw'.bk H12.out (by omega)
                have r0 := hk2.at_ (i := 0) rfl; have r1 := hk2.at_ (i := 1) rfl; have r2 := hk2.at_ (i := 2) rfl
                go_simp
              simp only [Act.put, List.setIfInBounds_toArray, List.set_cons_zero, List.set_cons_succ]
              refine wpAnyH_take (i := 2) (oi := ⟨some 62, Op.move (Operand.tmp 1), 64, "ref.go:110", #[], none⟩) (v := .slice (some ⟨sb', so, none⟩) l.length c) rfl (by kernel_rfl) (by kernel_rfl) (by kernel_rfl) (fun _ _ _ h => h) (Or.inl ⟨by rfl, fun w' hw' => ?_⟩) (by assumption) ?_
              · skip
                go_simp
              simp only [Act.put, List.setIfInBounds_toArray, List.set_cons_zero, List.set_cons_succ]
              refine wpAnyH_take (i := 3) (oi := ⟨some 63, Op.move (Operand.tmp 11), 3, "ref.go:110", #[], none⟩) (v := .int .i64 j) rfl (by kernel_rfl) (by kernel_rfl) (by kernel_rfl) (fun _ _ _ h => h) (Or.inl ⟨by rfl, fun w' hw' => ?_⟩) (by assumption) ?_
              · skip
                go_simp
              simp only [Act.put, List.setIfInBounds_toArray, List.set_cons_zero, List.set_cons_succ]
              refine wpAnyH_take (i := 4) (oi := ⟨some 64, Op.indexAddr 64 (Operand.tmp 62) (Operand.tmp 63), 0, "ref.go:110", #[⟨2, Ground.data⟩, ⟨3, Ground.data⟩], none⟩) (v := .pointer (some ⟨sb', so + j * 2, none⟩)) rfl (by kernel_rfl) (by kernel_rfl) (by kernel_rfl) (fun _ _ _ h => h) (Or.inl ⟨by rfl, fun w' hw' => ?_⟩) (by assumption) ?_
              · skip
                go_simp
              simp only [Act.put, List.setIfInBounds_toArray, List.set_cons_zero, List.set_cons_succ]
              refine wpAnyH_take (i := 5) (oi := ⟨some 65, Op.fieldAddr 77 (Operand.tmp 64) 1, 0, "ref.go:110", #[⟨4, Ground.data⟩], none⟩) (v := .pointer (some ⟨sb', so + j * 2 + 1, none⟩)) rfl (by kernel_rfl) (by kernel_rfl) (by kernel_rfl) (fun _ _ _ h => h) (Or.inl ⟨by rfl, fun w' hw' => ?_⟩) (by assumption) ?_
              · skip
                go_simp
              simp only [Act.put, List.setIfInBounds_toArray, List.set_cons_zero, List.set_cons_succ]
              refine wpAnyH_take (i := 6) (oi := ⟨some 66, Op.load 2 (Operand.tmp 65), 2, "ref.go:110", #[⟨5, Ground.data⟩], none⟩) (v := .int .i64 xv) rfl (by kernel_rfl) (by kernel_rfl) (by kernel_rfl) (fun _ _ _ h => h) (Or.inl ⟨by rfl, fun w' hw' => ?_⟩) (by assumption) ?_
              · have r1 := hw'.cell HC1W.out (by dsimp only; omega)
                go_simp
              simp only [Act.put, List.setIfInBounds_toArray, List.set_cons_zero, List.set_cons_succ]
              refine wpAnyH_ready (rs := [7]) (by kernel_rfl) (by simp) ?_
              refine AllReadyH.cons (o := ⟨some 67, Op.call { callee := Callee.value (Operand.func 94), args := #[Operand.tmp 60, Operand.tmp 61, Operand.tmp 66], argTypes := #[75, 48, 2] }, 0, "ref.go:110", #[⟨0, Ground.data⟩, ⟨1, Ground.data⟩, ⟨6, Ground.data⟩], none⟩) rfl (fun K hK => ?_) AllReadyH.nil
              go_simp
              refine HWR.out.mono ?_
              rintro e w6 ⟨⟨r, rfl⟩, hby6, hgx⟩
              have hgx2 : Gx gb wp w6 := (show Gx gb wp wp.drew from ⟨rfl, rfl, rfl, Nat.le_refl _, fun _ _ _ => rfl⟩).trans hgx
              refine hK.out _ _ hgx2 (fun hHeld6 => ?_)
              clear hK K
              have HM6 := Lib.hid (HMI.out.write (by omega) e8 hby6 hgx2)
              refine wpAnyH_done (by kernel_rfl) ?_ _
              clear hby6 hgx hgx2 hHeld6 hHeld
              go_wp2_with fail
              go_roundw
              case rel => exact ⟨j + 1, by omega, by go_num, HA2.out, B6, nM6, cM6, M6, rfl, hnc6, by omega, by rw [HS2.out]; exact HM6.out⟩
              case measure => simp [intOf]; omega
      · obtain rfl : j = l.length := by omega
        have hM := hM
        rw [List.take_length] at hM
        have hal := HALL.out
        rw [List.take_length] at hal
        obtain ⟨k1, k2, k3⟩ := mk_ok HER.out (fail_none hal)
        rw [HZ.out, Int.toNat_natCast] at k3
        have hcv := conv_back hM.by_ hM.lt n
        rw [hM.len, ← k3, HV.out] at hcv
        obtain rfl : E = 0 := by rw [← HE.out]; exact k1
        obtain rfl : I = 0 := by rw [← HI.out]; exact k2
        have HB := Lib.hid hM.bel
        clear hM hal k1 k2 k3
        go_wp2_with fail
        go_ret3
        exact ⟨rfl, HB.out⟩
  · have hne : (er != 0) = true := by simpa using he
    obtain ⟨k1, k2, k3⟩ := mk_bad (l := l) (show errS d t ≠ 0 by rw [HER.out]; exact he)
    rw [HER.out] at k1
    obtain rfl : V = ⟨#[]⟩ := by rw [← HV.out]; exact k3
    obtain rfl : E = er := by rw [← HE.out]; exact k1
    obtain rfl : I = 0 := by rw [← HI.out]; exact k2
    clear k1 k2 k3
    go_wp2_with fail
    go_ret3
    exact ⟨rfl, HB1.out⟩
end Go.Proofs.Ytcggghamnmflcaa
