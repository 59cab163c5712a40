/- The law ClassMore. -/
import Derived.Test.YtcggghamnmflcaaClo
import Derived.Test.YtcggghamnmflcaaClm
import Derived.Laws.MakeOwn
namespace Go.Proofs.Ytcggghamnmflcaa
open Go Go.RowKit Go.Shelf
attribute [local go_sem] mn2_int mn_two
theorem info38 : (Try.prog.info? 38).map (fun i => (i.zero, i.size, i.bytes)) = some (some (.agg #[.int .i64 0, .int .i64 0, .int .i64 0, .slice none 0 0, .slice none 0 0, .bool false, .int .i64 0]), 7, 88) := by kernel_rfl
/-- append(row, more...) at a step of a drawn region; more may be nil. -/
theorem step_app35 {ops : Array Oper} {o : Oper} {a : Act} {K : Act → World → Prop} {Q : Exit → Act → World → Prop} {E : Prop} (hgd : o.guard = none) (s x : Operand)
    (ho : o.op = .call { callee := .builtin .append, args := #[s, x], argTypes := #[35, 35] }) (w : World) (base : Nat) (v : Value) (n : Nat) (xs : List Value) (hs : a.eval s = v) (hown : w.ownsRow base 38 7 v n xs) (hv : ∃ g cap, v = .slice (some ⟨g, 0, none⟩) n cap)
    (A : Option Addr) (m c : Nat) (news : List Value) (hx : a.eval x = .slice A m c) (hA : A = none → m = 0) (hl : news.length = m * 7) (hnews : ∀ ad, A = some ad → ∀ j u, news[j]? = some u → w.cell? (ad.add j) = some u) (h1 : ∀ u ∈ news, u.oneCell' = true)
    (h63 : n + m ≤ maxLen) (hbytes : (n + m) * 88 ≤ 140737488355328) (hbase : base ≤ w.heap.size)
    (h : ∀ v' w', w'.ownsRow base 38 7 v' (n + m) (xs ++ news) → w.grownBy w' v.ownBlock → K (a.put o.dst v') w') :
    if Region.wanted o (yielded ops a.tmps) = true then Oper.wp Try.prog o a w K Q else E := by
  have hw : Region.wanted o (yielded ops a.tmps) = true := by simp [Region.wanted, hgd]
  rw [if_pos hw]
  obtain ⟨i0, hi0, hz0', hz1', hz2'⟩ := info_parts info38
  have key : ∃ v' w', (Builtin.append_ #[35, 35] o.type #[v, .slice A m c]).run Try.prog w = .ok v' w' ∧ w'.ownsRow base 38 7 v' (n + m) (xs ++ news) ∧ w.grownBy w' v.ownBlock := by
    cases A with
    | none =>
      obtain rfl := hA rfl
      obtain rfl : news = [] := List.length_eq_zero_iff.1 (by rw [hl])
      obtain ⟨g, cap, rfl⟩ := hv
      have hle : n ≤ cap := by
        rcases hown.2 with ⟨h1, _⟩ | ⟨_, _, _, h1, _, _, h3, _⟩
        · cases h1
        · injection h1 with _ _ h4; omega
      refine ⟨_, w, ?_, by simpa using hown, World.grownBy.refl _ _⟩
      simp [Builtin.append_, run_underlying Try.underlying35, sizeOf, typeInfo, hi0, hle, storeCells, Builtin.lenOf, Builtin.firstCells]
    | some ad =>
      obtain ⟨v', w', e1, e2, e3, _⟩ := run_append_own_at w base 35 o.type 38 i0 _ 7 88 Try.underlying35 hi0 hz0' hz1' hz2' rfl (by decide) v n xs hown ad m c news hl (hnews ad rfl) h1 h63 hbytes hbase
      exact ⟨v', w', e1, e2, e3⟩
  obtain ⟨v', w', e1, e2, e3⟩ := key
  unfold Oper.wp execOp
  simp only [ho, resolve, invoke, builtin, Sem.run_bind, Sem.run_pure, Result.andThen_ok, List.map_toArray, List.map_cons, List.map_nil, hs, hx, e1]
  exact h v' w' e2 e3
/-- The cells of a slice of types, one behind the other. -/
theorem tys_flat {w : World} {d : Nat} {A : Option Addr} {us : List (Tp d)} (h : TysAt w d A us) : ∃ XS : List Value, XS.length = us.length * 7 ∧ (∀ ad, A = some ad → ∀ j u, XS[j]? = some u → w.cell? (ad.add j) = some u) ∧ (∀ u ∈ XS, u.oneCell' = true) ∧
    ∀ i x, us[i]? = some x → ∃ xs, xs.length = 7 ∧ (∀ r v, xs[r]? = some v → XS[i * 7 + r]? = some v) ∧ TyAt w d x xs := by
  have key : ∀ j, j < us.length * 7 → ∃ u : Value, u.oneCell' = true ∧ (∃ b o, A = some ⟨b, o, none⟩ ∧ w.cell? ⟨b, o + j, none⟩ = some u) := fun j hj => by
    obtain ⟨x, hx⟩ : ∃ x, us[j / 7]? = some x := ⟨_, List.getElem?_eq_getElem (by omega)⟩
    obtain ⟨b, o, xs, ha, hl, hr, ht⟩ := h (j / 7) x hx
    obtain ⟨n0, A1, A2, n1, n2, c1, c2, pk, al, rfl⟩ := ht.form
    obtain ⟨u, hu⟩ : ∃ u, ([.int .i64 (tsh d x), .int .i64 (tk d x), .int .i64 n0, .slice A1 n1 c1, .slice A2 n2 c2, .bool pk, .int .i64 al] : List Value)[j % 7]? = some u := ⟨_, List.getElem?_eq_getElem (by simp; omega)⟩
    refine ⟨u, ?_, b, o, ha, ?_⟩
    · have := List.mem_of_getElem? hu
      simp only [List.mem_cons, List.not_mem_nil, or_false] at this
      rcases this with rfl | rfl | rfl | rfl | rfl | rfl | rfl <;> rfl
    · have := hr (j % 7) u hu
      rw [← this]
      congr 2
      omega
  obtain ⟨XS, hl, hp⟩ := list_choose _ (us.length * 7) key
  refine ⟨XS, hl, fun ad ha j u hu => ?_, fun u hu => ?_, fun i x hx => ?_⟩
  · obtain ⟨_, b, o, he, hc⟩ := hp j u hu
    rw [ha] at he
    cases he
    rw [add_off _ rfl]
    exact hc
  · obtain ⟨j, hj⟩ := List.getElem?_of_mem hu
    exact (hp j u hj).1
  · obtain ⟨b, o, xs, ha, hxl, hr, ht⟩ := h i x hx
    refine ⟨xs, hxl, fun r v hv => ?_, ht⟩
    have hr7 : r < 7 := by rw [← hxl]; exact (List.getElem?_eq_some_iff.1 hv).1
    have hi := (List.getElem?_eq_some_iff.1 hx).1
    obtain ⟨u, hu⟩ : ∃ u, XS[i * 7 + r]? = some u := ⟨_, List.getElem?_eq_getElem (by omega)⟩
    obtain ⟨_, b', o', he, hc⟩ := hp _ u hu
    rw [ha] at he
    cases he
    rw [hu, ← hc, ← hr r v hv]
    congr 2
    omega
/-- The types that a row owns, one more behind them. -/
theorem tys_of_flat {w W : World} {d : Nat} {us : List (Tp d)} {mt : Tp d} {XS ys : List Value} {base g n c : Nat} (hb : Below w.heap.size w W) (hl : XS.length = us.length * 7) (hu : ∀ i x, us[i]? = some x → ∃ xs, xs.length = 7 ∧ (∀ r v, xs[r]? = some v → XS[i * 7 + r]? = some v) ∧ TyAt w d x xs)
    (hm : TyAt w d mt ys) (hy : ys.length = 7) (hrow : W.ownsRow base 38 7 (.slice (some ⟨g, 0, none⟩) n c) n (XS ++ ys)) : TysAt W d (some ⟨g, 0, none⟩) (us ++ [mt]) := fun i x hx => by
  have hc : ∀ j u, (XS ++ ys)[j]? = some u → W.cell? ⟨g, 0 + j, none⟩ = some u := fun j u hu => by
    have := hrow.cells (g := g) rfl j u hu
    rwa [add_off _ rfl] at this
  rw [List.getElem?_append] at hx
  split at hx
  · rename_i hlt
    obtain ⟨xs, e1, e2, e3⟩ := hu i x hx
    refine ⟨g, 0, xs, rfl, e1, fun r v hv => ?_, e3.below hb⟩
    have := hc (i * 7 + r) v (by
      rw [List.getElem?_append_left (by have := (List.getElem?_eq_some_iff.1 hv).1; omega)]
      exact e2 r v hv)
    rw [Nat.add_assoc]
    exact this
  · rename_i hge
    have hi : i = us.length := by
      have := (List.getElem?_eq_some_iff.1 hx).1
      simp at this
      omega
    subst hi
    rw [Nat.sub_self] at hx
    obtain rfl : mt = x := by simpa using hx
    refine ⟨g, 0, ys, rfl, hy, fun r v hv => ?_, hm.below hb⟩
    have := hc (us.length * 7 + r) v (by
      rw [List.getElem?_append_right (by omega), hl, Nat.add_sub_cancel_left]
      exact hv)
    rw [Nat.add_assoc]
    exact this
set_option maxRecDepth 100000 in
set_option maxHeartbeats 4000000 in
theorem classMore_w (d : Nat) (A : Option Addr) (ts : List (Tp d)) (c : Nat) (rt : Tp d) (v0 v1 v2 v3 v4 v5 v6 : Value) (mt : Tp d) (y0 y1 y2 y3 y4 y5 y6 : Value) (w : World) (hk : ts.length ≤ c) (hc : c ≤ 9223372036854775807) (hT : TysAt w d A ts) (hR : TyAt w d rt [v0, v1, v2, v3, v4, v5, v6]) (hM : TyAt w d mt [y0, y1, y2, y3, y4, y5, y6]) :
    Calls Try.prog 26 #[.slice A ts.length c, .agg #[v0, v1, v2, v3, v4, v5, v6], .agg #[y0, y1, y2, y3, y4, y5, y6]] w fun e w' => e = .returned (.bool true) ∧ Below w.heap.size w w' := by
  obtain ⟨us, m, hus, hm, hm1, hm2, hmin⟩ : ∃ (us : List (Tp d)) (m : Nat), ts.take 15 = us ∧ us.length = m ∧ m ≤ 15 ∧ m ≤ ts.length ∧ mn (ts.length : Int) 15 = (m : Int) := ⟨_, _, rfl, rfl, by rw [List.length_take]; omega, by rw [List.length_take]; omega, by unfold mn; rw [List.length_take]; split <;> omega⟩
  have HU := Lib.hid (show TysAt w d A us by rw [← hus]; exact hT.take 15)
  have HM := Lib.hid hM
  have HL := Lib.hid hm
  have HP := Lib.hid (fun w' (hb : Below w.heap.size w w') => pass_c us A c rt v0 v1 v2 v3 v4 v5 v6 w' (HU.out.below hb) (by omega) (hR.below hb))
  rw [hm] at HP
  have hpl := plw_len us rt
  have hpl2 := plw_len (us ++ [mt]) rt
  have HMO := Lib.hid (pass_more (ts := us) (m := mt) (ret := rt))
  obtain ⟨pL, hL⟩ : ∃ x, passL d d us rt = x := ⟨_, rfl⟩
  obtain ⟨pN, hN⟩ : ∃ x, passN d d us rt = x := ⟨_, rfl⟩
  obtain ⟨pE, hE⟩ : ∃ x, passE d d us rt = x := ⟨_, rfl⟩
  rw [hL, hN, hE] at HP HMO
  rw [hL] at hpl
  obtain ⟨qL, hL2⟩ : ∃ x, passL d d (us ++ [mt]) rt = x := ⟨_, rfl⟩
  obtain ⟨qN, hN2⟩ : ∃ x, passN d d (us ++ [mt]) rt = x := ⟨_, rfl⟩
  obtain ⟨qE, hE2⟩ : ∃ x, passE d d (us ++ [mt]) rt = x := ⟨_, rfl⟩
  rw [hL2, hN2, hE2] at HMO
  rw [hL2] at hpl2
  have HQ := Lib.hid (fun (W : World) (g cc : Nat) (h : TysAt W d (some ⟨g, 0, none⟩) (us ++ [mt])) (hb : Below w.heap.size w W) => pass_f (us ++ [mt]) (some ⟨g, 0, none⟩) cc rt v0 v1 v2 v3 v4 v5 v6 W h (by simp; omega) (hR.below hb))
  rw [hL2, hN2, hE2, List.length_append, List.length_singleton, hm] at HQ
  have HQL := Lib.hid hL2
  have HQN := Lib.hid hN2
  have HQE := Lib.hid hE2
  clear hT hR hM hm hL hN hE hus hL2 hN2 hE2
  go_enter Try.func26, Try.ntmps26
  go_upto_region 1 with (fail)
  have hT := (Bk.new w 38 #[v0, v1, v2, v3, v4, v5, v6]).alloc (.cells #[y0, y1, y2, y3, y4, y5, y6] 38)
  have hY := Bk.new1 w (.cells #[v0, v1, v2, v3, v4, v5, v6] 38) 38 #[y0, y1, y2, y3, y4, y5, y6]
  have hb0 := bel_alloc (bel_alloc (Below.refl _ w) (.cells #[v0, v1, v2, v3, v4, v5, v6] 38)) (.cells #[y0, y1, y2, y3, y4, y5, y6] 38)
  generalize World.alloc (World.alloc w _) _ = W0 at hT hY hb0 ⊢
  go_wp2_with fail
  refine (shown64_c _).mono ?_
  rintro e w1 ⟨rfl, hb1⟩
  have hT1 := hT.below hb1 hT.lt
  have hY1 := hY.below hb1 hY.lt
  have HB1 := Lib.hid (bel_then hb0 hb1)
  clear hb1 hb0 hT hY
  have t0 := hT1.at_ (i := 0) rfl; have t1 := hT1.at_ (i := 1) rfl; have t2 := hT1.at_ (i := 2) rfl; have t3 := hT1.at_ (i := 3) rfl; have t4 := hT1.at_ (i := 4) rfl; have t5 := hT1.at_ (i := 5) rfl; have t6 := hT1.at_ (i := 6) rfl
  have z1 : (0 : Int) ≤ (m : Int) := Int.natCast_nonneg _
  have z2 : (m : Int) ≤ (c : Int) := by omega
  go_wp2_with fail
  refine (HP.out _ HB1.out).mono ?_
  rintro e w2 ⟨B, n, c', rfl, hP2, hb2⟩
  have hT2 := hT1.below hb2 hT1.lt
  have hY2 := hY1.below hb2 hY1.lt
  have HP2 := Lib.hid hP2
  have HB2 := Lib.hid (bel_then HB1.out hb2)
  clear hb2 hP2 hT1 hY1 t0 t1 t2 t3 t4 t5 t6
  have t0 := hT2.at_ (i := 0) rfl; have t1 := hT2.at_ (i := 1) rfl; have t2 := hT2.at_ (i := 2) rfl; have t3 := hT2.at_ (i := 3) rfl; have t4 := hT2.at_ (i := 4) rfl; have t5 := hT2.at_ (i := 5) rfl; have t6 := hT2.at_ (i := 6) rfl
  have s0 := hY2.at_ (i := 0) rfl; have s1 := hY2.at_ (i := 1) rfl; have s2 := hY2.at_ (i := 2) rfl; have s3 := hY2.at_ (i := 3) rfl; have s4 := hY2.at_ (i := 4) rfl; have s5 := hY2.at_ (i := 5) rfl; have s6 := hY2.at_ (i := 6) rfl
  go_upto_region 4 with (fail)
  obtain ⟨i0, hi0, hz0', hz1', hz2'⟩ := info_parts info38
  obtain ⟨XS, hXl, hXc, hX1, hXt⟩ := tys_flat HU.out
  rw [HL.out] at hXl
  have hwr : IntKind.i64.wrap ((m : Int) + 1) = (m : Int) + 1 := by rw [IntKind.wrap_i64]; omega
  have hA0 : A = none → m = 0 := fun h => by
    have hl := HL.out
    cases hu : us with
    | nil => rw [← hl, hu]; rfl
    | cons x l =>
      obtain ⟨_, _, _, ha, _⟩ := HU.out 0 x (by rw [hu]; rfl)
      rw [h] at ha
      cases ha
  have hY1c : ∀ u ∈ [y0, y1, y2, y3, y4, y5, y6], u.oneCell' = true := by
    obtain ⟨n0, A1, A2, n1, n2, c1, c2, pk, al, hcs⟩ := HM.out.form
    intro u hu
    rw [hcs] at hu
    simp only [List.mem_cons, List.not_mem_nil, or_false] at hu
    rcases hu with rfl | rfl | rfl | rfl | rfl | rfl | rfl <;> rfl
  have hS14 : ∀ W, Below w2.heap.size w2 W → W.cell? ⟨w.heap.size, 0, none⟩ = some v0 ∧ W.cell? ⟨w.heap.size, 1, none⟩ = some v1 ∧ W.cell? ⟨w.heap.size, 2, none⟩ = some v2 ∧ W.cell? ⟨w.heap.size, 3, none⟩ = some v3 ∧ W.cell? ⟨w.heap.size, 4, none⟩ = some v4 ∧ W.cell? ⟨w.heap.size, 5, none⟩ = some v5 ∧ W.cell? ⟨w.heap.size, 6, none⟩ = some v6 ∧ W.cell? ⟨w.heap.size + 1, 0, none⟩ = some y0 ∧ W.cell? ⟨w.heap.size + 1, 1, none⟩ = some y1 ∧ W.cell? ⟨w.heap.size + 1, 2, none⟩ = some y2 ∧ W.cell? ⟨w.heap.size + 1, 3, none⟩ = some y3 ∧ W.cell? ⟨w.heap.size + 1, 4, none⟩ = some y4 ∧ W.cell? ⟨w.heap.size + 1, 5, none⟩ = some y5 ∧ W.cell? ⟨w.heap.size + 1, 6, none⟩ = some y6 := fun W hb => ⟨bel_cell hb t0, bel_cell hb t1, bel_cell hb t2, bel_cell hb t3, bel_cell hb t4, bel_cell hb t5, bel_cell hb t6, bel_cell hb s0, bel_cell hb s1, bel_cell hb s2, bel_cell hb s3, bel_cell hb s4, bel_cell hb s5, bel_cell hb s6⟩
  clear t0 t1 t2 t3 t4 t5 t6 s0 s1 s2 s3 s4 s5 s6
  refine wp_region_held_drew (S := fun w' => w'.cell? ⟨w.heap.size, 0, none⟩ = some v0 ∧ w'.cell? ⟨w.heap.size, 1, none⟩ = some v1 ∧ w'.cell? ⟨w.heap.size, 2, none⟩ = some v2 ∧ w'.cell? ⟨w.heap.size, 3, none⟩ = some v3 ∧ w'.cell? ⟨w.heap.size, 4, none⟩ = some v4 ∧ w'.cell? ⟨w.heap.size, 5, none⟩ = some v5 ∧ w'.cell? ⟨w.heap.size, 6, none⟩ = some v6 ∧ w'.cell? ⟨w.heap.size + 1, 0, none⟩ = some y0 ∧ w'.cell? ⟨w.heap.size + 1, 1, none⟩ = some y1 ∧ w'.cell? ⟨w.heap.size + 1, 2, none⟩ = some y2 ∧ w'.cell? ⟨w.heap.size + 1, 3, none⟩ = some y3 ∧ w'.cell? ⟨w.heap.size + 1, 4, none⟩ = some y4 ∧ w'.cell? ⟨w.heap.size + 1, 5, none⟩ = some y5 ∧ w'.cell? ⟨w.heap.size + 1, 6, none⟩ = some y6) (by kernel_rfl) (hS14 _ (bel_drew (Below.refl _ _))) (fun hHeld => ?_)
  refine wpAnyH_take (i := 0) (oi := ⟨some 28, Op.move (Operand.tmp 0), 35, "law.go:77", #[], none⟩) (v := .slice A m c) rfl (by kernel_rfl) (by kernel_rfl) (by kernel_rfl) (fun _ _ _ h => h) (Or.inl ⟨by rfl, fun w' hw' => ?_⟩) (by assumption) ?_
  · obtain ⟨x0, x1, x2, x3, x4, x5, x6, x7, x8, x9, x10, x11, x12, x13⟩ := hw'
    go_simp
  simp only [Act.put, List.setIfInBounds_toArray, List.set_cons_zero, List.set_cons_succ]
  refine wpAnyH_take (i := 1) (oi := ⟨some 29, Op.call { callee := Callee.builtin Builtin.len, args := #[Operand.tmp 28], argTypes := #[35] }, 3, "law.go:77", #[⟨0, Ground.data⟩], none⟩) (v := .int .i64 m) rfl (by kernel_rfl) (by kernel_rfl) (by kernel_rfl) (fun _ _ _ h => h) (Or.inl ⟨by rfl, fun w' hw' => ?_⟩) (by assumption) ?_
  · obtain ⟨x0, x1, x2, x3, x4, x5, x6, x7, x8, x9, x10, x11, x12, x13⟩ := hw'
    go_simp
  simp only [Act.put, List.setIfInBounds_toArray, List.set_cons_zero, List.set_cons_succ]
  refine wpAnyH_take (i := 2) (oi := ⟨some 30, Op.binOp BinOp.add 3 (Operand.tmp 29) (Operand.const (Value.int IntKind.i64 1)) 3, 3, "law.go:77", #[⟨1, Ground.data⟩], none⟩) (v := .int .i64 ((m : Int) + 1)) rfl (by kernel_rfl) (by kernel_rfl) (by kernel_rfl) (fun _ _ _ h => h) (Or.inl ⟨by rfl, fun w' hw' => ?_⟩) (by assumption) ?_
  · obtain ⟨x0, x1, x2, x3, x4, x5, x6, x7, x8, x9, x10, x11, x12, x13⟩ := hw'
    go_simp
  simp only [Act.put, List.setIfInBounds_toArray, List.set_cons_zero, List.set_cons_succ]
  refine wpAnyH_take (i := 4) (oi := ⟨some 32, Op.move (Operand.tmp 0), 35, "law.go:77", #[], none⟩) (v := .slice A m c) rfl (by kernel_rfl) (by kernel_rfl) (by kernel_rfl) (fun _ _ _ h => h) (Or.inl ⟨by rfl, fun w' hw' => ?_⟩) (by assumption) ?_
  · obtain ⟨x0, x1, x2, x3, x4, x5, x6, x7, x8, x9, x10, x11, x12, x13⟩ := hw'
    go_simp
  simp only [Act.put, List.setIfInBounds_toArray, List.set_cons_zero, List.set_cons_succ]
  refine wpAnyH_take (i := 6) (oi := ⟨some 34, Op.load 38 (Operand.tmp 5), 38, "law.go:77", #[], none⟩) (v := .agg #[y0, y1, y2, y3, y4, y5, y6]) rfl (by kernel_rfl) (by kernel_rfl) (by kernel_rfl) (fun _ _ _ h => h) (Or.inl ⟨by rfl, fun w' hw' => ?_⟩) (by assumption) ?_
  · obtain ⟨x0, x1, x2, x3, x4, x5, x6, x7, x8, x9, x10, x11, x12, x13⟩ := hw'
    go_simp
  simp only [Act.put, List.setIfInBounds_toArray, List.set_cons_zero, List.set_cons_succ]
  refine wpAnyH_take (i := 9) (oi := ⟨some 37, Op.load 38 (Operand.tmp 4), 38, "law.go:77", #[], none⟩) (v := .agg #[v0, v1, v2, v3, v4, v5, v6]) rfl (by kernel_rfl) (by kernel_rfl) (by kernel_rfl) (fun _ _ _ h => h) (Or.inl ⟨by rfl, fun w' hw' => ?_⟩) (by assumption) ?_
  · obtain ⟨x0, x1, x2, x3, x4, x5, x6, x7, x8, x9, x10, x11, x12, x13⟩ := hw'
    go_simp
  simp only [Act.put, List.setIfInBounds_toArray, List.set_cons_zero, List.set_cons_succ]
  have hbd : Below w2.heap.size w2 w2.drew := bel_drew (Below.refl _ _)
  generalize w2.drew = Wd at hHeld hbd ⊢
  clear hHeld
  refine wpAnyH_ready (rs := [3, 7]) (by kernel_rfl) (by simp) ?_
  refine AllReadyH.cons (o := ⟨some 31, Op.makeSlice 35 (Operand.const (Value.int IntKind.i64 0)) (Operand.tmp 30), 35, "law.go:77", #[⟨2, Ground.data⟩], none⟩) rfl (fun K hK => ?_) ?_
  · obtain ⟨wm, em, hrm, hgm⟩ := run_makeSlice_owned (P := Try.prog) (Wd) (Wd).heap.size 35 38 i0 _ 7 Try.underlying35 hi0 hz0' hz1' .i64 .i64 (m + 1) (by omega) (by rw [hz2']; omega) (by unfold maxLen; omega) (Nat.le_refl _)
    rw [Int.natCast_add, Int.natCast_one] at em
    have hbm := Below.grown hbd hgm hbd.size (fun k e => by cases e)
    have hszm := hgm.size
    go_simp
    refine hK.out _ _ (hS14 _ hbm) (fun _ => ?_)
    clear hK K
    refine wpAnyH_ready (rs := [5, 7]) (by kernel_rfl) (by simp) ?_
    refine AllReadyH.cons (o := ⟨some 33, Op.call { callee := Callee.builtin Builtin.append, args := #[Operand.tmp 31, Operand.tmp 32], argTypes := #[35, 35] }, 35, "law.go:77", #[⟨3, Ground.data⟩, ⟨4, Ground.data⟩], none⟩) rfl (fun K hK => ?_) ?_
    · refine step_app35 (o := ⟨some 33, Op.call { callee := Callee.builtin Builtin.append, args := #[Operand.tmp 31, Operand.tmp 32], argTypes := #[35, 35] }, 35, "law.go:77", #[⟨3, Ground.data⟩, ⟨4, Ground.data⟩], none⟩) rfl (.tmp 31) (.tmp 32) rfl (wm) _ _ 0 [] (by rfl) (hrm) ⟨_, _, rfl⟩ A m c XS (by rfl) hA0 hXl (fun ad e => (fun j u hu => bel_cell (bel_then HB2.out (hbm)) (hXc ad e j u hu))) hX1 (by unfold maxLen; omega) (by omega) (by have h1 := hszm; (try simp only [World.size_alloc] at h1 ⊢); omega) ?_
      intro va wa hra hga
      have hsza := hga.size
      have hba := Below.grown (hbm) hga (hbm).size (fun k e => Nat.le_trans (hbd.size) (ownT (hrm) k e).1)
      simp only [Act.put, List.setIfInBounds_toArray, List.set_cons_zero, List.set_cons_succ]
      refine hK.out _ _ (hS14 _ hba) (fun _ => ?_)
      clear hK K
      refine wpAnyH_ready (rs := [7]) (by kernel_rfl) (by simp) ?_
      refine AllReadyH.cons (o := ⟨some 35, Op.buildSlice 35 1 #[(0, Operand.tmp 34)], 35, "law.go:77", #[⟨6, Ground.data⟩], none⟩) rfl (fun K hK => ?_) AllReadyH.nil
      go_simp
      have hbb := bel_alloc (hba) (.cells #[y0, y1, y2, y3, y4, y5, y6] 38)
      refine hK.out _ _ (hS14 _ hbb) (fun _ => ?_)
      clear hK K
      refine wpAnyH_ready (rs := [8]) (by kernel_rfl) (by simp) ?_
      refine AllReadyH.cons (o := ⟨some 36, Op.call { callee := Callee.builtin Builtin.append, args := #[Operand.tmp 33, Operand.tmp 35], argTypes := #[35, 35] }, 35, "law.go:77", #[⟨5, Ground.data⟩, ⟨7, Ground.data⟩, ⟨5, Ground.chain⟩], none⟩) rfl (fun K hK => ?_) AllReadyH.nil
      refine step_append_lies _ rfl (.tmp 33) (.tmp 35) 35 rfl (Wd.heap.size) 38 i0 _ 7 88 Try.underlying35 hi0 hz0' hz1' hz2' rfl (by omega) _ (0 + m) ([] ++ XS) (by rfl) (hra.alloc (.cells #[y0, y1, y2, y3, y4, y5, y6] 38)) ⟨wa.heap.size, 0, none⟩ 1 1 [y0, y1, y2, y3, y4, y5, y6] (by rfl) (by rfl) (World.news_of_block (cs := #[y0, y1, y2, y3, y4, y5, y6]) (t := 38) (fr := (0, 0)) (heap_alloc_new wa _)) hY1c (by omega) (by unfold maxLen; omega) (by omega) (by have h1 := hszm; have h2 := hsza; (try simp only [World.size_alloc] at h1 h2 ⊢); omega) _ rfl ?_
      intro g5 c5 w7 hown7 hgrow _ _
      have hb7 := Below.grown (hbb) hgrow (hbb).size (fun k e => Nat.le_trans (hbd.size) (ownT (hra.alloc (.cells #[y0, y1, y2, y3, y4, y5, y6] 38)) k e).1)
      have HO7 := Lib.hid hown7
      have HB7 := Lib.hid hb7
      simp only [Act.put, List.setIfInBounds_toArray, List.set_cons_zero, List.set_cons_succ]
      refine hK.out _ _ (hS14 _ hb7) (fun _ => ?_)
      clear hK K
      refine wpAnyH_ready (rs := [10]) (by kernel_rfl) (by simp) ?_
      refine AllReadyH.cons (o := ⟨some 38, Op.call { callee := Callee.value (Operand.func 67), args := #[Operand.tmp 36, Operand.tmp 37], argTypes := #[35, 38] }, 82, "law.go:77", #[⟨8, Ground.data⟩, ⟨9, Ground.data⟩, ⟨8, Ground.chain⟩], none⟩) rfl (fun K hK => ?_) AllReadyH.nil
      go_simp
      have HTY := Lib.hid (tys_of_flat (bel_then HB2.out HB7.out) (by rw [HL.out]; exact hXl) hXt HM.out rfl (by simpa only [Nat.zero_add, List.nil_append] using HO7.out))
      refine (HQ.out w7 g5 c5 HTY.out (bel_then HB2.out HB7.out)).mono ?_
      rintro e w8 ⟨B2, n2, c2, rfl, hP8, hb8, hn2⟩
      have hb28 := bel_then HB7.out hb8
      refine hK.out _ _ (hS14 _ hb28) (fun hHeld8 => ?_)
      clear hK K
      refine wpAnyH_take (i := 11) (oi := ⟨some 27, Op.move (Operand.tmp 38), 82, "law.go:77", #[⟨10, Ground.data⟩], none⟩) (v := .tuple #[.slice B2 n2 c2, .int .i64 qN, .int .i64 qE]) rfl (by kernel_rfl) (by kernel_rfl) (by kernel_rfl) (fun _ _ _ h => h) (Or.inl ⟨by rfl, fun w' hw' => ?_⟩) (by assumption) ?_
      · obtain ⟨x0, x1, x2, x3, x4, x5, x6, x7, x8, x9, x10, x11, x12, x13⟩ := hw'
        go_simp
      simp only [Act.put, List.setIfInBounds_toArray, List.set_cons_zero, List.set_cons_succ]
      refine wpAnyH_take (i := 12) (oi := ⟨some 39, Op.extract (Operand.tmp 27) 0, 81, "law.go:77", #[⟨11, Ground.data⟩], none⟩) (v := .slice B2 n2 c2) rfl (by kernel_rfl) (by kernel_rfl) (by kernel_rfl) (fun _ _ _ h => h) (Or.inl ⟨by rfl, fun w' hw' => ?_⟩) (by assumption) ?_
      · obtain ⟨x0, x1, x2, x3, x4, x5, x6, x7, x8, x9, x10, x11, x12, x13⟩ := hw'
        go_simp
      simp only [Act.put, List.setIfInBounds_toArray, List.set_cons_zero, List.set_cons_succ]
      refine wpAnyH_take (i := 13) (oi := ⟨some 40, Op.extract (Operand.tmp 27) 1, 2, "law.go:77", #[⟨11, Ground.data⟩, { on := 15, ground := Ground.gcOnly Departure.lateStores }], none⟩) (v := .int .i64 qN) rfl (by kernel_rfl) (by kernel_rfl) (by kernel_rfl) (fun _ _ _ h => h) (Or.inl ⟨by rfl, fun w' hw' => ?_⟩) (by assumption) ?_
      · obtain ⟨x0, x1, x2, x3, x4, x5, x6, x7, x8, x9, x10, x11, x12, x13⟩ := hw'
        go_simp
      simp only [Act.put, List.setIfInBounds_toArray, List.set_cons_zero, List.set_cons_succ]
      refine wpAnyH_take (i := 14) (oi := ⟨some 41, Op.extract (Operand.tmp 27) 2, 23, "law.go:77", #[⟨11, Ground.data⟩, { on := 16, ground := Ground.gcOnly Departure.lateStores }], none⟩) (v := .int .i64 qE) rfl (by kernel_rfl) (by kernel_rfl) (by kernel_rfl) (fun _ _ _ h => h) (Or.inl ⟨by rfl, fun w' hw' => ?_⟩) (by assumption) ?_
      · obtain ⟨x0, x1, x2, x3, x4, x5, x6, x7, x8, x9, x10, x11, x12, x13⟩ := hw'
        go_simp
      simp only [Act.put, List.setIfInBounds_toArray, List.set_cons_zero, List.set_cons_succ]
      refine wpAnyH_take (i := 15) (oi := ⟨some 11, Op.assign (Operand.tmp 39), 81, "law.go:77", #[⟨12, Ground.data⟩, ⟨10, Ground.chain⟩, ⟨0, Ground.phase⟩, ⟨1, Ground.phase⟩, ⟨2, Ground.phase⟩, ⟨3, Ground.phase⟩, ⟨4, Ground.phase⟩, ⟨5, Ground.phase⟩, ⟨6, Ground.phase⟩, ⟨7, Ground.phase⟩, ⟨8, Ground.phase⟩, ⟨9, Ground.phase⟩, ⟨10, Ground.phase⟩, ⟨11, Ground.phase⟩, ⟨12, Ground.phase⟩, { on := 13, ground := Ground.textOnly Departure.lateStores }, { on := 14, ground := Ground.textOnly Departure.lateStores }], none⟩) (v := .slice B2 n2 c2) rfl (by kernel_rfl) (by kernel_rfl) (by kernel_rfl) (fun _ _ _ h => h) (Or.inl ⟨by rfl, fun w' hw' => ?_⟩) (by assumption) ?_
      · obtain ⟨x0, x1, x2, x3, x4, x5, x6, x7, x8, x9, x10, x11, x12, x13⟩ := hw'
        go_simp
      simp only [Act.put, List.setIfInBounds_toArray, List.set_cons_zero, List.set_cons_succ]
      refine wpAnyH_take (i := 16) (oi := ⟨some 12, Op.assign (Operand.tmp 40), 2, "law.go:77", #[⟨13, Ground.data⟩, ⟨15, Ground.chain⟩, ⟨0, Ground.phase⟩, ⟨1, Ground.phase⟩, ⟨2, Ground.phase⟩, ⟨3, Ground.phase⟩, ⟨4, Ground.phase⟩, ⟨5, Ground.phase⟩, ⟨6, Ground.phase⟩, ⟨7, Ground.phase⟩, ⟨8, Ground.phase⟩, ⟨9, Ground.phase⟩, ⟨10, Ground.phase⟩, ⟨11, Ground.phase⟩, ⟨12, Ground.phase⟩, ⟨13, Ground.phase⟩, { on := 14, ground := Ground.textOnly Departure.lateStores }, ⟨15, Ground.phase⟩], none⟩) (v := .int .i64 qN) rfl (by kernel_rfl) (by kernel_rfl) (by kernel_rfl) (fun _ _ _ h => h) (Or.inl ⟨by rfl, fun w' hw' => ?_⟩) (by assumption) ?_
      · obtain ⟨x0, x1, x2, x3, x4, x5, x6, x7, x8, x9, x10, x11, x12, x13⟩ := hw'
        go_simp
      simp only [Act.put, List.setIfInBounds_toArray, List.set_cons_zero, List.set_cons_succ]
      refine wpAnyH_take (i := 17) (oi := ⟨some 13, Op.assign (Operand.tmp 41), 23, "law.go:77", #[⟨14, Ground.data⟩, ⟨16, Ground.chain⟩, ⟨0, Ground.phase⟩, ⟨1, Ground.phase⟩, ⟨2, Ground.phase⟩, ⟨3, Ground.phase⟩, ⟨4, Ground.phase⟩, ⟨5, Ground.phase⟩, ⟨6, Ground.phase⟩, ⟨7, Ground.phase⟩, ⟨8, Ground.phase⟩, ⟨9, Ground.phase⟩, ⟨10, Ground.phase⟩, ⟨11, Ground.phase⟩, ⟨12, Ground.phase⟩, ⟨13, Ground.phase⟩, ⟨14, Ground.phase⟩, ⟨15, Ground.phase⟩, ⟨16, Ground.phase⟩], none⟩) (v := .int .i64 qE) rfl (by kernel_rfl) (by kernel_rfl) (by kernel_rfl) (fun _ _ _ h => h) (Or.inl ⟨by rfl, fun w' hw' => ?_⟩) (by assumption) ?_
      · obtain ⟨x0, x1, x2, x3, x4, x5, x6, x7, x8, x9, x10, x11, x12, x13⟩ := hw'
        go_simp
      simp only [Act.put, List.setIfInBounds_toArray, List.set_cons_zero, List.set_cons_succ]
      refine wpAnyH_done (by kernel_rfl) ?_ _
      have HP8 := Lib.hid hP8
      have HP9 := Lib.hid (HP2.out.below hb28)
      have HB8 := Lib.hid (bel_then HB2.out hb28)
      clear hHeld8 hP8 hb8 hb28 HTY HO7 HB7 hown7 hgrow hb7 hS14
      obtain rfl : n = pL.length := HP9.out.1
      obtain rfl : n2 = qL.length := HP8.out.1
      by_cases e1 : pE = 0
      · subst e1
        by_cases e2 : qE = 0
        · subst e2
          obtain ⟨f1, f2, f3⟩ := HMO.out rfl rfl
          have HT8 := Lib.hid (show PlwsAt w8 B2 pL.length pL from ⟨rfl, fun i s hs => HP8.out.2 i s (by rw [← f1, List.getElem?_take] at hs; split at hs <;> first | exact hs | cases hs)⟩)
          have HS := Lib.hid (samePlws_c B2 B _ _ c2 c' pL pL w8 HT8.out HP9.out (by omega) (by omega))
          have g1 : (0 : Int) ≤ (pL.length : Int) := Int.natCast_nonneg _
          have g2 : (pL.length : Int) ≤ (c2 : Int) := by omega
          have g3 : (pL.length : Int) ≤ (qL.length : Int) := by omega
          clear f1
          go_wp2_with fail
          refine HS.out.mono ?_
          rintro e w9 ⟨rfl, hb9⟩
          have HB9 := Lib.hid (bel_then HB8.out hb9)
          clear hb9
          simp only [decide_true]
          go_wp2_with fail
          go_ret
          exact ⟨rfl, HB9.out⟩
        · have hn : (qE != 0) = true := by simpa using e2
          go_wp2_with fail
          go_ret
          exact ⟨rfl, HB8.out⟩
      · have hn : (pE != 0) = true := by simpa using e1
        go_wp2_with fail
        go_ret
        exact ⟨rfl, HB8.out⟩
    refine AllReadyH.cons (o := ⟨some 35, Op.buildSlice 35 1 #[(0, Operand.tmp 34)], 35, "law.go:77", #[⟨6, Ground.data⟩], none⟩) rfl (fun K hK => ?_) AllReadyH.nil
    go_simp
    have hbb := bel_alloc (hbm) (.cells #[y0, y1, y2, y3, y4, y5, y6] 38)
    refine hK.out _ _ (hS14 _ hbb) (fun _ => ?_)
    clear hK K
    refine wpAnyH_ready (rs := [5]) (by kernel_rfl) (by simp) ?_
    refine AllReadyH.cons (o := ⟨some 33, Op.call { callee := Callee.builtin Builtin.append, args := #[Operand.tmp 31, Operand.tmp 32], argTypes := #[35, 35] }, 35, "law.go:77", #[⟨3, Ground.data⟩, ⟨4, Ground.data⟩], none⟩) rfl (fun K hK => ?_) AllReadyH.nil
    refine step_app35 (o := ⟨some 33, Op.call { callee := Callee.builtin Builtin.append, args := #[Operand.tmp 31, Operand.tmp 32], argTypes := #[35, 35] }, 35, "law.go:77", #[⟨3, Ground.data⟩, ⟨4, Ground.data⟩], none⟩) rfl (.tmp 31) (.tmp 32) rfl (wm.alloc (.cells #[y0, y1, y2, y3, y4, y5, y6] 38)) _ _ 0 [] (by rfl) (hrm.alloc (.cells #[y0, y1, y2, y3, y4, y5, y6] 38)) ⟨_, _, rfl⟩ A m c XS (by rfl) hA0 hXl (fun ad e => (fun j u hu => bel_cell (bel_then HB2.out (hbb)) (hXc ad e j u hu))) hX1 (by unfold maxLen; omega) (by omega) (by have h1 := hszm; (try simp only [World.size_alloc] at h1 ⊢); omega) ?_
    intro va wa hra hga
    have hsza := hga.size
    have hba := Below.grown (hbb) hga (hbb).size (fun k e => Nat.le_trans (hbd.size) (ownT (hrm.alloc (.cells #[y0, y1, y2, y3, y4, y5, y6] 38)) k e).1)
    simp only [Act.put, List.setIfInBounds_toArray, List.set_cons_zero, List.set_cons_succ]
    refine hK.out _ _ (hS14 _ hba) (fun _ => ?_)
    clear hK K
    refine wpAnyH_ready (rs := [8]) (by kernel_rfl) (by simp) ?_
    refine AllReadyH.cons (o := ⟨some 36, Op.call { callee := Callee.builtin Builtin.append, args := #[Operand.tmp 33, Operand.tmp 35], argTypes := #[35, 35] }, 35, "law.go:77", #[⟨5, Ground.data⟩, ⟨7, Ground.data⟩, ⟨5, Ground.chain⟩], none⟩) rfl (fun K hK => ?_) AllReadyH.nil
    refine step_append_lies _ rfl (.tmp 33) (.tmp 35) 35 rfl (Wd.heap.size) 38 i0 _ 7 88 Try.underlying35 hi0 hz0' hz1' hz2' rfl (by omega) _ (0 + m) ([] ++ XS) (by rfl) (hra) ⟨wm.heap.size, 0, none⟩ 1 1 [y0, y1, y2, y3, y4, y5, y6] (by rfl) (by rfl) (World.news_of_block (cs := #[y0, y1, y2, y3, y4, y5, y6]) (t := 38) (fr := (0, 0)) ((hga.block _ (by simp) (fun e => by have h1 := (ownT hrm _ e.symm).2; omega)).trans (heap_alloc_new wm _))) hY1c (by omega) (by unfold maxLen; omega) (by omega) (by have h1 := hszm; have h2 := hsza; (try simp only [World.size_alloc] at h1 h2 ⊢); omega) _ rfl ?_
    intro g5 c5 w7 hown7 hgrow _ _
    have hb7 := Below.grown (hba) hgrow (hba).size (fun k e => Nat.le_trans (hbd.size) (ownT (hra) k e).1)
    have HO7 := Lib.hid hown7
    have HB7 := Lib.hid hb7
    simp only [Act.put, List.setIfInBounds_toArray, List.set_cons_zero, List.set_cons_succ]
    refine hK.out _ _ (hS14 _ hb7) (fun _ => ?_)
    clear hK K
    refine wpAnyH_ready (rs := [10]) (by kernel_rfl) (by simp) ?_
    refine AllReadyH.cons (o := ⟨some 38, Op.call { callee := Callee.value (Operand.func 67), args := #[Operand.tmp 36, Operand.tmp 37], argTypes := #[35, 38] }, 82, "law.go:77", #[⟨8, Ground.data⟩, ⟨9, Ground.data⟩, ⟨8, Ground.chain⟩], none⟩) rfl (fun K hK => ?_) AllReadyH.nil
    go_simp
    have HTY := Lib.hid (tys_of_flat (bel_then HB2.out HB7.out) (by rw [HL.out]; exact hXl) hXt HM.out rfl (by simpa only [Nat.zero_add, List.nil_append] using HO7.out))
    refine (HQ.out w7 g5 c5 HTY.out (bel_then HB2.out HB7.out)).mono ?_
    rintro e w8 ⟨B2, n2, c2, rfl, hP8, hb8, hn2⟩
    have hb28 := bel_then HB7.out hb8
    refine hK.out _ _ (hS14 _ hb28) (fun hHeld8 => ?_)
    clear hK K
    refine wpAnyH_take (i := 11) (oi := ⟨some 27, Op.move (Operand.tmp 38), 82, "law.go:77", #[⟨10, Ground.data⟩], none⟩) (v := .tuple #[.slice B2 n2 c2, .int .i64 qN, .int .i64 qE]) rfl (by kernel_rfl) (by kernel_rfl) (by kernel_rfl) (fun _ _ _ h => h) (Or.inl ⟨by rfl, fun w' hw' => ?_⟩) (by assumption) ?_
    · obtain ⟨x0, x1, x2, x3, x4, x5, x6, x7, x8, x9, x10, x11, x12, x13⟩ := hw'
      go_simp
    simp only [Act.put, List.setIfInBounds_toArray, List.set_cons_zero, List.set_cons_succ]
    refine wpAnyH_take (i := 12) (oi := ⟨some 39, Op.extract (Operand.tmp 27) 0, 81, "law.go:77", #[⟨11, Ground.data⟩], none⟩) (v := .slice B2 n2 c2) rfl (by kernel_rfl) (by kernel_rfl) (by kernel_rfl) (fun _ _ _ h => h) (Or.inl ⟨by rfl, fun w' hw' => ?_⟩) (by assumption) ?_
    · obtain ⟨x0, x1, x2, x3, x4, x5, x6, x7, x8, x9, x10, x11, x12, x13⟩ := hw'
      go_simp
    simp only [Act.put, List.setIfInBounds_toArray, List.set_cons_zero, List.set_cons_succ]
    refine wpAnyH_take (i := 13) (oi := ⟨some 40, Op.extract (Operand.tmp 27) 1, 2, "law.go:77", #[⟨11, Ground.data⟩, { on := 15, ground := Ground.gcOnly Departure.lateStores }], none⟩) (v := .int .i64 qN) rfl (by kernel_rfl) (by kernel_rfl) (by kernel_rfl) (fun _ _ _ h => h) (Or.inl ⟨by rfl, fun w' hw' => ?_⟩) (by assumption) ?_
    · obtain ⟨x0, x1, x2, x3, x4, x5, x6, x7, x8, x9, x10, x11, x12, x13⟩ := hw'
      go_simp
    simp only [Act.put, List.setIfInBounds_toArray, List.set_cons_zero, List.set_cons_succ]
    refine wpAnyH_take (i := 14) (oi := ⟨some 41, Op.extract (Operand.tmp 27) 2, 23, "law.go:77", #[⟨11, Ground.data⟩, { on := 16, ground := Ground.gcOnly Departure.lateStores }], none⟩) (v := .int .i64 qE) rfl (by kernel_rfl) (by kernel_rfl) (by kernel_rfl) (fun _ _ _ h => h) (Or.inl ⟨by rfl, fun w' hw' => ?_⟩) (by assumption) ?_
    · obtain ⟨x0, x1, x2, x3, x4, x5, x6, x7, x8, x9, x10, x11, x12, x13⟩ := hw'
      go_simp
    simp only [Act.put, List.setIfInBounds_toArray, List.set_cons_zero, List.set_cons_succ]
    refine wpAnyH_take (i := 15) (oi := ⟨some 11, Op.assign (Operand.tmp 39), 81, "law.go:77", #[⟨12, Ground.data⟩, ⟨10, Ground.chain⟩, ⟨0, Ground.phase⟩, ⟨1, Ground.phase⟩, ⟨2, Ground.phase⟩, ⟨3, Ground.phase⟩, ⟨4, Ground.phase⟩, ⟨5, Ground.phase⟩, ⟨6, Ground.phase⟩, ⟨7, Ground.phase⟩, ⟨8, Ground.phase⟩, ⟨9, Ground.phase⟩, ⟨10, Ground.phase⟩, ⟨11, Ground.phase⟩, ⟨12, Ground.phase⟩, { on := 13, ground := Ground.textOnly Departure.lateStores }, { on := 14, ground := Ground.textOnly Departure.lateStores }], none⟩) (v := .slice B2 n2 c2) rfl (by kernel_rfl) (by kernel_rfl) (by kernel_rfl) (fun _ _ _ h => h) (Or.inl ⟨by rfl, fun w' hw' => ?_⟩) (by assumption) ?_
    · obtain ⟨x0, x1, x2, x3, x4, x5, x6, x7, x8, x9, x10, x11, x12, x13⟩ := hw'
      go_simp
    simp only [Act.put, List.setIfInBounds_toArray, List.set_cons_zero, List.set_cons_succ]
    refine wpAnyH_take (i := 16) (oi := ⟨some 12, Op.assign (Operand.tmp 40), 2, "law.go:77", #[⟨13, Ground.data⟩, ⟨15, Ground.chain⟩, ⟨0, Ground.phase⟩, ⟨1, Ground.phase⟩, ⟨2, Ground.phase⟩, ⟨3, Ground.phase⟩, ⟨4, Ground.phase⟩, ⟨5, Ground.phase⟩, ⟨6, Ground.phase⟩, ⟨7, Ground.phase⟩, ⟨8, Ground.phase⟩, ⟨9, Ground.phase⟩, ⟨10, Ground.phase⟩, ⟨11, Ground.phase⟩, ⟨12, Ground.phase⟩, ⟨13, Ground.phase⟩, { on := 14, ground := Ground.textOnly Departure.lateStores }, ⟨15, Ground.phase⟩], none⟩) (v := .int .i64 qN) rfl (by kernel_rfl) (by kernel_rfl) (by kernel_rfl) (fun _ _ _ h => h) (Or.inl ⟨by rfl, fun w' hw' => ?_⟩) (by assumption) ?_
    · obtain ⟨x0, x1, x2, x3, x4, x5, x6, x7, x8, x9, x10, x11, x12, x13⟩ := hw'
      go_simp
    simp only [Act.put, List.setIfInBounds_toArray, List.set_cons_zero, List.set_cons_succ]
    refine wpAnyH_take (i := 17) (oi := ⟨some 13, Op.assign (Operand.tmp 41), 23, "law.go:77", #[⟨14, Ground.data⟩, ⟨16, Ground.chain⟩, ⟨0, Ground.phase⟩, ⟨1, Ground.phase⟩, ⟨2, Ground.phase⟩, ⟨3, Ground.phase⟩, ⟨4, Ground.phase⟩, ⟨5, Ground.phase⟩, ⟨6, Ground.phase⟩, ⟨7, Ground.phase⟩, ⟨8, Ground.phase⟩, ⟨9, Ground.phase⟩, ⟨10, Ground.phase⟩, ⟨11, Ground.phase⟩, ⟨12, Ground.phase⟩, ⟨13, Ground.phase⟩, ⟨14, Ground.phase⟩, ⟨15, Ground.phase⟩, ⟨16, Ground.phase⟩], none⟩) (v := .int .i64 qE) rfl (by kernel_rfl) (by kernel_rfl) (by kernel_rfl) (fun _ _ _ h => h) (Or.inl ⟨by rfl, fun w' hw' => ?_⟩) (by assumption) ?_
    · obtain ⟨x0, x1, x2, x3, x4, x5, x6, x7, x8, x9, x10, x11, x12, x13⟩ := hw'
      go_simp
    simp only [Act.put, List.setIfInBounds_toArray, List.set_cons_zero, List.set_cons_succ]
    refine wpAnyH_done (by kernel_rfl) ?_ _
    have HP8 := Lib.hid hP8
    have HP9 := Lib.hid (HP2.out.below hb28)
    have HB8 := Lib.hid (bel_then HB2.out hb28)
    clear hHeld8 hP8 hb8 hb28 HTY HO7 HB7 hown7 hgrow hb7 hS14
    obtain rfl : n = pL.length := HP9.out.1
    obtain rfl : n2 = qL.length := HP8.out.1
    by_cases e1 : pE = 0
    · subst e1
      by_cases e2 : qE = 0
      · subst e2
        obtain ⟨f1, f2, f3⟩ := HMO.out rfl rfl
        have HT8 := Lib.hid (show PlwsAt w8 B2 pL.length pL from ⟨rfl, fun i s hs => HP8.out.2 i s (by rw [← f1, List.getElem?_take] at hs; split at hs <;> first | exact hs | cases hs)⟩)
        have HS := Lib.hid (samePlws_c B2 B _ _ c2 c' pL pL w8 HT8.out HP9.out (by omega) (by omega))
        have g1 : (0 : Int) ≤ (pL.length : Int) := Int.natCast_nonneg _
        have g2 : (pL.length : Int) ≤ (c2 : Int) := by omega
        have g3 : (pL.length : Int) ≤ (qL.length : Int) := by omega
        clear f1
        go_wp2_with fail
        refine HS.out.mono ?_
        rintro e w9 ⟨rfl, hb9⟩
        have HB9 := Lib.hid (bel_then HB8.out hb9)
        clear hb9
        simp only [decide_true]
        go_wp2_with fail
        go_ret
        exact ⟨rfl, HB9.out⟩
      · have hn : (qE != 0) = true := by simpa using e2
        go_wp2_with fail
        go_ret
        exact ⟨rfl, HB8.out⟩
    · have hn : (pE != 0) = true := by simpa using e1
      go_wp2_with fail
      go_ret
      exact ⟨rfl, HB8.out⟩
  refine AllReadyH.cons (o := ⟨some 35, Op.buildSlice 35 1 #[(0, Operand.tmp 34)], 35, "law.go:77", #[⟨6, Ground.data⟩], none⟩) rfl (fun K hK => ?_) AllReadyH.nil
  go_simp
  have hbb := bel_alloc (hbd) (.cells #[y0, y1, y2, y3, y4, y5, y6] 38)
  refine hK.out _ _ (hS14 _ hbb) (fun _ => ?_)
  clear hK K
  refine wpAnyH_ready (rs := [3]) (by kernel_rfl) (by simp) ?_
  refine AllReadyH.cons (o := ⟨some 31, Op.makeSlice 35 (Operand.const (Value.int IntKind.i64 0)) (Operand.tmp 30), 35, "law.go:77", #[⟨2, Ground.data⟩], none⟩) rfl (fun K hK => ?_) AllReadyH.nil
  obtain ⟨wm, em, hrm, hgm⟩ := run_makeSlice_owned (P := Try.prog) (Wd.alloc (.cells #[y0, y1, y2, y3, y4, y5, y6] 38)) (Wd.alloc (.cells #[y0, y1, y2, y3, y4, y5, y6] 38)).heap.size 35 38 i0 _ 7 Try.underlying35 hi0 hz0' hz1' .i64 .i64 (m + 1) (by omega) (by rw [hz2']; omega) (by unfold maxLen; omega) (Nat.le_refl _)
  rw [Int.natCast_add, Int.natCast_one] at em
  have hbm := Below.grown hbb hgm hbb.size (fun k e => by cases e)
  have hszm := hgm.size
  go_simp
  refine hK.out _ _ (hS14 _ hbm) (fun _ => ?_)
  clear hK K
  rw [World.size_alloc] at hrm hszm
  refine wpAnyH_ready (rs := [5]) (by kernel_rfl) (by simp) ?_
  refine AllReadyH.cons (o := ⟨some 33, Op.call { callee := Callee.builtin Builtin.append, args := #[Operand.tmp 31, Operand.tmp 32], argTypes := #[35, 35] }, 35, "law.go:77", #[⟨3, Ground.data⟩, ⟨4, Ground.data⟩], none⟩) rfl (fun K hK => ?_) AllReadyH.nil
  refine step_app35 (o := ⟨some 33, Op.call { callee := Callee.builtin Builtin.append, args := #[Operand.tmp 31, Operand.tmp 32], argTypes := #[35, 35] }, 35, "law.go:77", #[⟨3, Ground.data⟩, ⟨4, Ground.data⟩], none⟩) rfl (.tmp 31) (.tmp 32) rfl (wm) _ _ 0 [] (by rfl) (hrm) ⟨_, _, rfl⟩ A m c XS (by rfl) hA0 hXl (fun ad e => (fun j u hu => bel_cell (bel_then HB2.out (hbm)) (hXc ad e j u hu))) hX1 (by unfold maxLen; omega) (by omega) (by have h1 := hszm; (try simp only [World.size_alloc] at h1 ⊢); omega) ?_
  intro va wa hra hga
  have hsza := hga.size
  have hba := Below.grown (hbm) hga (hbm).size (fun k e => Nat.le_trans (Nat.le_succ_of_le hbd.size) (ownT (hrm) k e).1)
  simp only [Act.put, List.setIfInBounds_toArray, List.set_cons_zero, List.set_cons_succ]
  refine hK.out _ _ (hS14 _ hba) (fun _ => ?_)
  clear hK K
  refine wpAnyH_ready (rs := [8]) (by kernel_rfl) (by simp) ?_
  refine AllReadyH.cons (o := ⟨some 36, Op.call { callee := Callee.builtin Builtin.append, args := #[Operand.tmp 33, Operand.tmp 35], argTypes := #[35, 35] }, 35, "law.go:77", #[⟨5, Ground.data⟩, ⟨7, Ground.data⟩, ⟨5, Ground.chain⟩], none⟩) rfl (fun K hK => ?_) AllReadyH.nil
  refine step_append_lies _ rfl (.tmp 33) (.tmp 35) 35 rfl (Wd.heap.size + 1) 38 i0 _ 7 88 Try.underlying35 hi0 hz0' hz1' hz2' rfl (by omega) _ (0 + m) ([] ++ XS) (by rfl) (hra) ⟨Wd.heap.size, 0, none⟩ 1 1 [y0, y1, y2, y3, y4, y5, y6] (by rfl) (by rfl) (World.news_of_block (cs := #[y0, y1, y2, y3, y4, y5, y6]) (t := 38) (fr := (0, 0)) ((hga.block _ (by omega) (fun e => by have h1 := (ownT hrm _ e.symm).1; omega)).trans ((hgm.block _ (by simp) (by simp)).trans (heap_alloc_new Wd _)))) hY1c (by omega) (by unfold maxLen; omega) (by omega) (by have h1 := hszm; have h2 := hsza; (try simp only [World.size_alloc] at h1 h2 ⊢); omega) _ rfl ?_
  intro g5 c5 w7 hown7 hgrow _ _
  have hb7 := Below.grown (hba) hgrow (hba).size (fun k e => Nat.le_trans (Nat.le_succ_of_le hbd.size) (ownT (hra) k e).1)
  have HO7 := Lib.hid hown7
  have HB7 := Lib.hid hb7
  simp only [Act.put, List.setIfInBounds_toArray, List.set_cons_zero, List.set_cons_succ]
  refine hK.out _ _ (hS14 _ hb7) (fun _ => ?_)
  clear hK K
  refine wpAnyH_ready (rs := [10]) (by kernel_rfl) (by simp) ?_
  refine AllReadyH.cons (o := ⟨some 38, Op.call { callee := Callee.value (Operand.func 67), args := #[Operand.tmp 36, Operand.tmp 37], argTypes := #[35, 38] }, 82, "law.go:77", #[⟨8, Ground.data⟩, ⟨9, Ground.data⟩, ⟨8, Ground.chain⟩], none⟩) rfl (fun K hK => ?_) AllReadyH.nil
  go_simp
  have HTY := Lib.hid (tys_of_flat (bel_then HB2.out HB7.out) (by rw [HL.out]; exact hXl) hXt HM.out rfl (by simpa only [Nat.zero_add, List.nil_append] using HO7.out))
  refine (HQ.out w7 g5 c5 HTY.out (bel_then HB2.out HB7.out)).mono ?_
  rintro e w8 ⟨B2, n2, c2, rfl, hP8, hb8, hn2⟩
  have hb28 := bel_then HB7.out hb8
  refine hK.out _ _ (hS14 _ hb28) (fun hHeld8 => ?_)
  clear hK K
  refine wpAnyH_take (i := 11) (oi := ⟨some 27, Op.move (Operand.tmp 38), 82, "law.go:77", #[⟨10, Ground.data⟩], none⟩) (v := .tuple #[.slice B2 n2 c2, .int .i64 qN, .int .i64 qE]) rfl (by kernel_rfl) (by kernel_rfl) (by kernel_rfl) (fun _ _ _ h => h) (Or.inl ⟨by rfl, fun w' hw' => ?_⟩) (by assumption) ?_
  · obtain ⟨x0, x1, x2, x3, x4, x5, x6, x7, x8, x9, x10, x11, x12, x13⟩ := hw'
    go_simp
  simp only [Act.put, List.setIfInBounds_toArray, List.set_cons_zero, List.set_cons_succ]
  refine wpAnyH_take (i := 12) (oi := ⟨some 39, Op.extract (Operand.tmp 27) 0, 81, "law.go:77", #[⟨11, Ground.data⟩], none⟩) (v := .slice B2 n2 c2) rfl (by kernel_rfl) (by kernel_rfl) (by kernel_rfl) (fun _ _ _ h => h) (Or.inl ⟨by rfl, fun w' hw' => ?_⟩) (by assumption) ?_
  · obtain ⟨x0, x1, x2, x3, x4, x5, x6, x7, x8, x9, x10, x11, x12, x13⟩ := hw'
    go_simp
  simp only [Act.put, List.setIfInBounds_toArray, List.set_cons_zero, List.set_cons_succ]
  refine wpAnyH_take (i := 13) (oi := ⟨some 40, Op.extract (Operand.tmp 27) 1, 2, "law.go:77", #[⟨11, Ground.data⟩, { on := 15, ground := Ground.gcOnly Departure.lateStores }], none⟩) (v := .int .i64 qN) rfl (by kernel_rfl) (by kernel_rfl) (by kernel_rfl) (fun _ _ _ h => h) (Or.inl ⟨by rfl, fun w' hw' => ?_⟩) (by assumption) ?_
  · obtain ⟨x0, x1, x2, x3, x4, x5, x6, x7, x8, x9, x10, x11, x12, x13⟩ := hw'
    go_simp
  simp only [Act.put, List.setIfInBounds_toArray, List.set_cons_zero, List.set_cons_succ]
  refine wpAnyH_take (i := 14) (oi := ⟨some 41, Op.extract (Operand.tmp 27) 2, 23, "law.go:77", #[⟨11, Ground.data⟩, { on := 16, ground := Ground.gcOnly Departure.lateStores }], none⟩) (v := .int .i64 qE) rfl (by kernel_rfl) (by kernel_rfl) (by kernel_rfl) (fun _ _ _ h => h) (Or.inl ⟨by rfl, fun w' hw' => ?_⟩) (by assumption) ?_
  · obtain ⟨x0, x1, x2, x3, x4, x5, x6, x7, x8, x9, x10, x11, x12, x13⟩ := hw'
    go_simp
  simp only [Act.put, List.setIfInBounds_toArray, List.set_cons_zero, List.set_cons_succ]
  refine wpAnyH_take (i := 15) (oi := ⟨some 11, Op.assign (Operand.tmp 39), 81, "law.go:77", #[⟨12, Ground.data⟩, ⟨10, Ground.chain⟩, ⟨0, Ground.phase⟩, ⟨1, Ground.phase⟩, ⟨2, Ground.phase⟩, ⟨3, Ground.phase⟩, ⟨4, Ground.phase⟩, ⟨5, Ground.phase⟩, ⟨6, Ground.phase⟩, ⟨7, Ground.phase⟩, ⟨8, Ground.phase⟩, ⟨9, Ground.phase⟩, ⟨10, Ground.phase⟩, ⟨11, Ground.phase⟩, ⟨12, Ground.phase⟩, { on := 13, ground := Ground.textOnly Departure.lateStores }, { on := 14, ground := Ground.textOnly Departure.lateStores }], none⟩) (v := .slice B2 n2 c2) rfl (by kernel_rfl) (by kernel_rfl) (by kernel_rfl) (fun _ _ _ h => h) (Or.inl ⟨by rfl, fun w' hw' => ?_⟩) (by assumption) ?_
  · obtain ⟨x0, x1, x2, x3, x4, x5, x6, x7, x8, x9, x10, x11, x12, x13⟩ := hw'
    go_simp
  simp only [Act.put, List.setIfInBounds_toArray, List.set_cons_zero, List.set_cons_succ]
  refine wpAnyH_take (i := 16) (oi := ⟨some 12, Op.assign (Operand.tmp 40), 2, "law.go:77", #[⟨13, Ground.data⟩, ⟨15, Ground.chain⟩, ⟨0, Ground.phase⟩, ⟨1, Ground.phase⟩, ⟨2, Ground.phase⟩, ⟨3, Ground.phase⟩, ⟨4, Ground.phase⟩, ⟨5, Ground.phase⟩, ⟨6, Ground.phase⟩, ⟨7, Ground.phase⟩, ⟨8, Ground.phase⟩, ⟨9, Ground.phase⟩, ⟨10, Ground.phase⟩, ⟨11, Ground.phase⟩, ⟨12, Ground.phase⟩, ⟨13, Ground.phase⟩, { on := 14, ground := Ground.textOnly Departure.lateStores }, ⟨15, Ground.phase⟩], none⟩) (v := .int .i64 qN) rfl (by kernel_rfl) (by kernel_rfl) (by kernel_rfl) (fun _ _ _ h => h) (Or.inl ⟨by rfl, fun w' hw' => ?_⟩) (by assumption) ?_
  · obtain ⟨x0, x1, x2, x3, x4, x5, x6, x7, x8, x9, x10, x11, x12, x13⟩ := hw'
    go_simp
  simp only [Act.put, List.setIfInBounds_toArray, List.set_cons_zero, List.set_cons_succ]
  refine wpAnyH_take (i := 17) (oi := ⟨some 13, Op.assign (Operand.tmp 41), 23, "law.go:77", #[⟨14, Ground.data⟩, ⟨16, Ground.chain⟩, ⟨0, Ground.phase⟩, ⟨1, Ground.phase⟩, ⟨2, Ground.phase⟩, ⟨3, Ground.phase⟩, ⟨4, Ground.phase⟩, ⟨5, Ground.phase⟩, ⟨6, Ground.phase⟩, ⟨7, Ground.phase⟩, ⟨8, Ground.phase⟩, ⟨9, Ground.phase⟩, ⟨10, Ground.phase⟩, ⟨11, Ground.phase⟩, ⟨12, Ground.phase⟩, ⟨13, Ground.phase⟩, ⟨14, Ground.phase⟩, ⟨15, Ground.phase⟩, ⟨16, Ground.phase⟩], none⟩) (v := .int .i64 qE) rfl (by kernel_rfl) (by kernel_rfl) (by kernel_rfl) (fun _ _ _ h => h) (Or.inl ⟨by rfl, fun w' hw' => ?_⟩) (by assumption) ?_
  · obtain ⟨x0, x1, x2, x3, x4, x5, x6, x7, x8, x9, x10, x11, x12, x13⟩ := hw'
    go_simp
  simp only [Act.put, List.setIfInBounds_toArray, List.set_cons_zero, List.set_cons_succ]
  refine wpAnyH_done (by kernel_rfl) ?_ _
  have HP8 := Lib.hid hP8
  have HP9 := Lib.hid (HP2.out.below hb28)
  have HB8 := Lib.hid (bel_then HB2.out hb28)
  clear hHeld8 hP8 hb8 hb28 HTY HO7 HB7 hown7 hgrow hb7 hS14
  obtain rfl : n = pL.length := HP9.out.1
  obtain rfl : n2 = qL.length := HP8.out.1
  by_cases e1 : pE = 0
  · subst e1
    by_cases e2 : qE = 0
    · subst e2
      obtain ⟨f1, f2, f3⟩ := HMO.out rfl rfl
      have HT8 := Lib.hid (show PlwsAt w8 B2 pL.length pL from ⟨rfl, fun i s hs => HP8.out.2 i s (by rw [← f1, List.getElem?_take] at hs; split at hs <;> first | exact hs | cases hs)⟩)
      have HS := Lib.hid (samePlws_c B2 B _ _ c2 c' pL pL w8 HT8.out HP9.out (by omega) (by omega))
      have g1 : (0 : Int) ≤ (pL.length : Int) := Int.natCast_nonneg _
      have g2 : (pL.length : Int) ≤ (c2 : Int) := by omega
      have g3 : (pL.length : Int) ≤ (qL.length : Int) := by omega
      clear f1
      go_wp2_with fail
      refine HS.out.mono ?_
      rintro e w9 ⟨rfl, hb9⟩
      have HB9 := Lib.hid (bel_then HB8.out hb9)
      clear hb9
      simp only [decide_true]
      go_wp2_with fail
      go_ret
      exact ⟨rfl, HB9.out⟩
    · have hn : (qE != 0) = true := by simpa using e2
      go_wp2_with fail
      go_ret
      exact ⟨rfl, HB8.out⟩
  · have hn : (pE != 0) = true := by simpa using e1
    go_wp2_with fail
    go_ret
    exact ⟨rfl, HB8.out⟩
end Go.Proofs.Ytcggghamnmflcaa
