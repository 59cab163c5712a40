/- ImageSteps: without unions sets make what writing them one behind the other makes; the last set of a path counts. -/
import Derived.Test.YtcggghamnmflcaaIsp
import Derived.Test.YtcggghamnmflcaaIza
import Derived.Test.YtcggghamnmflcaaIhu
import Derived.Deep.RegionHeld3
import Derived.Maps.AppendAt
import Derived.Laws.OwnMore
import Derived.Laws.Small
namespace Go.Proofs.Ytcggghamnmflcaa
open Go Go.RowKit Go.Shelf
theorem info77 : (Try.prog.info? 77).map (fun i => (i.zero, i.size, i.bytes)) = some (some (.agg #[.slice none 0 0, .int .i64 0]), 2, 32) := by kernel_rfl
theorem SetsAt.below {w w1 : World} {A : Option Addr} {n : Nat} {l : List (List Int × Int)} (h : SetsAt w A n l) (hb : Below w.heap.size w w1) : SetsAt w1 A n l := by
  refine ⟨h.1, fun i x hx => ?_⟩
  obtain ⟨b, o, A', c, rfl, c0, c1, hI, h1, h2⟩ := h.2 i x hx
  exact ⟨b, o, A', c, rfl, bel_cell hb c0, bel_cell hb c1, hI.below hb, h1, h2⟩
theorem SetsAt.take {w : World} {A : Option Addr} {n : Nat} {l : List (List Int × Int)} (h : SetsAt w A n l) {m : Nat} (hm : m ≤ n) : SetsAt w A m (l.take m) := by
  have hn := h.1
  refine ⟨by rw [List.length_take]; omega, fun i x hx => h.2 i x ?_⟩
  rw [List.getElem?_take] at hx
  split at hx
  · exact hx
  · cases hx
/-- The cells of sets, one behind the other. -/
theorem sets_cells {w : World} {a : Addr} {n : Nat} {l : List (List Int × Int)} (h : SetsAt w (some a) n l) (hl : 0 < l.length) : ∃ b o, a = ⟨b, o, none⟩ ∧ ∃ cs : List Value, cs.length = n * 2 ∧ (∀ j u, cs[j]? = some u → w.cell? (a.add j) = some u) ∧ ∀ u ∈ cs, u.oneCell' = true := by
  obtain ⟨x0, hx0⟩ : ∃ x, l[0]? = some x := ⟨_, List.getElem?_eq_getElem hl⟩
  obtain ⟨b, o, _, _, ha, _⟩ := h.2 0 x0 hx0
  injection ha with ha
  subst ha
  refine ⟨b, o, rfl, (List.range (n * 2)).map (fun j => (w.cell? ⟨b, o + j, none⟩).getD undef), by simp, fun j u hu => ?_, fun u hu => ?_⟩
  · have hj : j < n * 2 := by
      have := (List.getElem?_eq_some_iff.1 hu).1
      simpa using this
    rw [List.getElem?_map, List.getElem?_range hj] at hu
    simp only [Option.map_some, Option.some.injEq] at hu
    obtain ⟨x, hx⟩ : ∃ x, l[j / 2]? = some x := ⟨_, List.getElem?_eq_getElem (by have := h.1; omega)⟩
    obtain ⟨b', o', A', c, hb', c0, c1, -⟩ := h.2 _ x hx
    injection hb' with hb'
    injection hb' with e1 e2
    subst e1 e2
    rw [add_off _ rfl]
    rcases (show j % 2 = 0 ∨ j % 2 = 1 by omega) with q | q
    · rw [show o + j / 2 * 2 = o + j by omega] at c0
      rw [c0] at hu ⊢
      rw [← hu]; rfl
    · rw [show o + j / 2 * 2 + 1 = o + j by omega] at c1
      rw [c1] at hu ⊢
      rw [← hu]; rfl
  · obtain ⟨j, hj, rfl⟩ := List.mem_map.1 hu
    have hj := List.mem_range.1 hj
    obtain ⟨x, hx⟩ : ∃ x, l[j / 2]? = some x := ⟨_, List.getElem?_eq_getElem (by have := h.1; omega)⟩
    obtain ⟨b', o', A', c, hb', c0, c1, -⟩ := h.2 _ x hx
    injection hb' with hb'
    injection hb' with e1 e2
    subst e1 e2
    rcases (show j % 2 = 0 ∨ j % 2 = 1 by omega) with q | q
    · rw [show o + j / 2 * 2 = o + j by omega] at c0
      rw [c0]; rfl
    · rw [show o + j / 2 * 2 + 1 = o + j by omega] at c1
      rw [c1]; rfl
set_option maxRecDepth 100000 in
/-- append([]api.Set{one}, l...) -/
theorem app64 {W : World} (ty : TypeId) {p : List Int} {A' : Option Addr} {c' : Nat} {y : Int} {A : Option Addr} {n c : Nat} {l : List (List Int × Int)} (hS : SetsAt W A n l) (hP : IntsAt W A' p.length p) (hp1 : p.length ≤ c') (hp2 : c' ≤ 9223372036854775807) (hl : l.length ≤ 100) (h0 : 0 < l.length) :
    ∃ g cap w', (Builtin.append_ #[64, 64] ty #[.slice (some ⟨W.heap.size, 0, none⟩) 1 1, .slice A n c]).run Try.prog (W.alloc (.cells #[.slice A' p.length c', .int .i64 y] 77)) = .ok (.slice (some ⟨g, 0, none⟩) (n + 1) cap) w' ∧ SetsAt w' (some ⟨g, 0, none⟩) (n + 1) ((p, y) :: l) ∧ Below W.heap.size W w' := by
  obtain ⟨i0, hi0, hz0', hz1', hz2'⟩ := info_parts info77
  obtain ⟨x0, hx0⟩ : ∃ x, l[0]? = some x := ⟨_, List.getElem?_eq_getElem h0⟩
  obtain ⟨b0, o0, _, _, rfl, _⟩ := hS.2 0 x0 hx0
  obtain ⟨b, o, hbo, cs, hcl, hcc, hc1⟩ := sets_cells hS h0
  have hba : Below W.heap.size W (W.alloc (.cells #[.slice A' p.length c', .int .i64 y] 77)) := bel_alloc (Below.refl _ W) _
  have hn := hS.1
  obtain ⟨v', w', e1, e2, e3, _⟩ := run_append_own_at (W.alloc (.cells #[.slice A' p.length c', .int .i64 y] 77)) W.heap.size 64 ty 77 i0 _ 2 32 Try.underlying64 hi0 hz0' hz1' hz2' rfl (by decide) (.slice (some ⟨W.heap.size, 0, none⟩) 1 1) 1 [.slice A' p.length c', .int .i64 y]
    (World.ownsRow_lit W #[.slice A' p.length c', .int .i64 y] 1 (Nat.le_refl _) (by unfold maxLen; omega) rfl) ⟨b0, o0, none⟩ n c cs hcl (fun j u hu => bel_cell hba (hcc j u hu)) hc1 (by unfold maxLen; omega) (by omega) (by rw [World.size_alloc]; omega)
  rw [Nat.add_comm 1 n] at e2
  obtain ⟨g, cap, rfl⟩ := ownsRow_succ e2
  have hbw : Below W.heap.size W w' := Below.grown hba e3 hba.size (fun k e => by
    have : k = W.heap.size := by simpa [Value.ownBlock] using e.symm
    omega)
  refine ⟨g, cap, w', e1, ⟨by rw [List.length_cons, hn], fun i x hx => ?_⟩, hbw⟩
  have hcell : ∀ (j : Nat) (u : Value), ([Value.slice A' p.length c', .int .i64 y] ++ cs)[j]? = some u → w'.cell? ⟨g, j, none⟩ = some u := fun j u hu => by
    have := e2.cells (g := g) rfl j u hu
    rw [add_off _ rfl, Nat.zero_add] at this
    exact this
  cases i with
  | zero =>
    cases hx
    exact ⟨g, 0, A', c', rfl, hcell 0 _ rfl, hcell 1 _ rfl, hP.below hbw, hp1, hp2⟩
  | succ i =>
    have hx' : l[i]? = some x := by simpa using hx
    obtain ⟨b', o', A1, cc, hb', c0, c1, hI, h1, h2⟩ := hS.2 i x hx'
    have hil : i < l.length := (List.getElem?_eq_some_iff.1 hx').1
    injection hb' with hb'
    injection hb' with q1 q2
    subst q1 q2
    have k0 := hcc (i * 2) cs[i * 2] (List.getElem?_eq_getElem (by omega))
    have k1 := hcc (i * 2 + 1) cs[i * 2 + 1] (List.getElem?_eq_getElem (by omega))
    rw [add_off _ rfl] at k0 k1
    rw [c0] at k0
    rw [show o0 + (i * 2 + 1) = o0 + i * 2 + 1 by omega, c1] at k1
    injection k0 with k0
    injection k1 with k1
    refine ⟨g, 0, A1, cc, rfl, hcell _ _ ?_, hcell _ _ ?_, hI.below hbw, h1, h2⟩
    · rw [k0, show 0 + (i + 1) * 2 = i * 2 + 1 + 1 by omega]
      show (_ :: _ :: cs)[i * 2 + 1 + 1]? = _
      rw [List.getElem?_cons_succ, List.getElem?_cons_succ]
      exact List.getElem?_eq_getElem (by omega)
    · rw [k1, show 0 + (i + 1) * 2 + 1 = i * 2 + 1 + 1 + 1 by omega]
      show (_ :: _ :: cs)[i * 2 + 1 + 1 + 1]? = _
      rw [List.getElem?_cons_succ, List.getElem?_cons_succ]
      exact List.getElem?_eq_getElem (by omega)
/-- append([]api.Set{one}, l...) as a step of a walk. -/
theorem wpList_app64 {W : World} {ops : Array Oper} {rest : List Oper} {o : Oper} {a : Act} {Q : Exit → Act → World → Prop} (hgd : o.guard = none) (s x : Operand)
    (ho : o.op = .call { callee := .builtin .append, args := #[s, x], argTypes := #[64, 64] }) {p : List Int} {np : Nat} (hnp : p.length = np) {A' : Option Addr} {c' : Nat} {y : Int} {A : Option Addr} {n c : Nat} {l : List (List Int × Int)}
    (hs : a.eval s = .slice (some ⟨W.heap.size, 0, none⟩) 1 1) (hx : a.eval x = .slice A n c) (hS : SetsAt W A n l) (hP : IntsAt W A' p.length p) (hp1 : p.length ≤ c') (hp2 : c' ≤ 9223372036854775807) (hl : l.length ≤ 100) (h0 : 0 < l.length)
    (h : ∀ g cap w', SetsAt w' (some ⟨g, 0, none⟩) (n + 1) ((p, y) :: l) → Below W.heap.size W w' → wpList Try.prog ops Q rest (a.put o.dst (.slice (some ⟨g, 0, none⟩) (n + 1) cap)) w') :
    wpList Try.prog ops Q (o :: rest) a (W.alloc (.cells #[.slice A' np c', .int .i64 y] 77)) := by
  subst hnp
  obtain ⟨g, cap, w', hrun, h1, h2⟩ := app64 (W := W) o.type (c := c) (y := y) hS hP hp1 hp2 hl h0
  refine wpList_plain hgd fun K hK => ?_
  unfold Oper.wp execOp
  simp only [ho, resolve, invoke, builtin, Sem.run_bind, Sem.run_pure, Result.andThen_ok, List.map_toArray, List.map_cons, List.map_nil, hs, hx, hrun]
  exact hK _ _ (h g cap w' h1 h2)
set_option maxRecDepth 100000 in
set_option maxHeartbeats 4000000 in
theorem imageSteps_w (d : Nat) (t : Tp d) (v0 v1 v2 v3 v4 v5 v6 : Value) (A : Option Addr) (l0 : List (List Int × Int)) (c : Nat) (w : World) (ht : TyAt w d t [v0, v1, v2, v3, v4, v5, v6])
    (hc1 : l0.length ≤ c) (hc2 : c ≤ 9223372036854775807) (hS0 : SetsAt w A l0.length l0 ∧ ∀ x ∈ l0, I64 x.2) :
    Calls Try.prog 20 #[.agg #[v0, v1, v2, v3, v4, v5, v6], .slice A l0.length c] w fun e w' => e = .returned (.bool true) ∧ Below w.heap.size w w' := by
  obtain ⟨n, hn⟩ : ∃ n, min l0.length 100 = n := ⟨_, rfl⟩
  obtain ⟨l, hl⟩ : ∃ l, l0.take n = l := ⟨_, rfl⟩
  have hS : SetsAt w A n l := by rw [← hl]; exact hS0.1.take (by omega)
  have hln : n = l.length := hS.1
  have hn1 : n ≤ 100 := by omega
  have hnc : n ≤ c := by omega
  have hmin : min (l0.length : Int) 100 = (n : Int) := by omega
  have hn0 : n ≤ l0.length := by omega
  have HMK := Lib.hid (fun w' (hb : Below w.heap.size w w') => make_c A l c w' (ht.below hb) (by rw [← hln]; exact hS.below hb) (by omega))
  have HMK2 := fun w' (hb : Below w.heap.size w w') B m L c2 (hB : SetsAt w' B m L) (hm : m ≤ 101) => show Calls Try.prog 55 #[.agg #[v0, v1, v2, v3, v4, v5, v6], .slice B m c2] w' (MakP d t L w') from by
    have h := make_c B L c2 w' (ht.below hb) (by rw [← hB.1]; exact hB) (by have := hB.1; omega)
    rwa [← hB.1] at h
  replace HMK2 := Lib.hid HMK2
  have HSZ := Lib.hid (fun w' (hb : Below w.heap.size w w') => ssize_c (ht.below hb))
  have HHU := Lib.hid (fun w' (hb : Below w.heap.size w w') => hu_c d t v0 v1 v2 v3 v4 v5 v6 w' (ht.below hb))
  have HPU := Lib.hid (fun w' (hb : Below w.heap.size w w') B p cc s x (hB : IntsAt w B p.length p) h1 h2 h3 => put_c B p cc s x w' (ht.below hb) (hB.below hb) h1 h2 h3)
  have HE0 := Lib.hid (fun h => mkE_0 (d := d) (t := t) (l := l) h)
  have HST := Lib.hid hS
  have HLN := Lib.hid hln
  clear hn hl hS hS0 ht
  rw [← HLN.out] at HMK
  have hlen0 : (0 : Int) ≤ (l0.length : Int) := Int.natCast_nonneg _
  obtain ⟨m0, hm0⟩ : ∃ m, l0.length = m := ⟨_, rfl⟩
  rw [hm0] at hc1 hmin hn0 hlen0 ⊢
  clear hm0 hln
  go_enter Try.func20, Try.ntmps20
  go_wp2_with fail
  refine (shown54_c _).mono ?_
  rintro e w1 ⟨rfl, hb1⟩
  have hT1 := (Bk.new w 38 #[v0, v1, v2, v3, v4, v5, v6]).below hb1 (by simp)
  have t0 := hT1.at_ (i := 0) rfl; have t1 := hT1.at_ (i := 1) rfl; have t2 := hT1.at_ (i := 2) rfl; have t3 := hT1.at_ (i := 3) rfl; have t4 := hT1.at_ (i := 4) rfl; have t5 := hT1.at_ (i := 5) rfl; have t6 := hT1.at_ (i := 6) rfl
  have HB1 := Lib.hid (bel_then (bel_alloc (Below.refl _ _) _) hb1)
  clear hb1
  go_upto_region 3 with (fail)
  have emin : (if 100 < (m0 : Int) then (100 : Int) else (m0 : Int)) = (n : Int) := by split <;> omega
  rw [emin, Int.toNat_natCast]
  clear emin hmin
  go_wp2_with fail
  refine (HMK.out _ HB1.out).mono ?_
  unfold MakP
  rintro e w2 ⟨rfl, hb2⟩
  obtain ⟨V, hV⟩ : ∃ z, mkV d t l = z := ⟨_, rfl⟩
  obtain ⟨E, hE⟩ : ∃ z, mkE d t l = z := ⟨_, rfl⟩
  obtain ⟨I, hI⟩ : ∃ z, mkI d t l = z := ⟨_, rfl⟩
  rw [hV, hE, hI]
  rw [hE] at HE0
  have HV := Lib.hid hV
  clear hV hE hI
  have hT2 := hT1.below hb2 hT1.lt
  have HB2 := Lib.hid (bel_then HB1.out hb2)
  clear t0 t1 t2 t3 t4 t5 t6 hT1 HB1 hb2
  have t0 := hT2.at_ (i := 0) rfl; have t1 := hT2.at_ (i := 1) rfl; have t2 := hT2.at_ (i := 2) rfl; have t3 := hT2.at_ (i := 3) rfl; have t4 := hT2.at_ (i := 4) rfl; have t5 := hT2.at_ (i := 5) rfl; have t6 := hT2.at_ (i := 6) rfl
  go_wp2_with fail
  refine (HSZ.out _ HB2.out).mono ?_
  rintro e w3 ⟨rfl, hb3⟩
  obtain ⟨sz, hsz⟩ : ∃ x, szS d t = x := ⟨_, rfl⟩
  obtain ⟨ag, hag⟩ : ∃ x, agS d t = x := ⟨_, rfl⟩
  obtain ⟨er, her⟩ : ∃ x, errS d t = x := ⟨_, rfl⟩
  rw [hsz, hag, her]
  have HZ := Lib.hid hsz
  have HER := Lib.hid her
  clear hsz hag her
  have hT3 := hT2.below hb3 hT2.lt
  have HB3 := Lib.hid (bel_then HB2.out hb3)
  clear t0 t1 t2 t3 t4 t5 t6 hT2 HB2 hb3
  by_cases hE0 : E = 0
  · subst hE0
    obtain ⟨g1, g2, g3⟩ := HE0.out rfl
    obtain rfl : er = 0 := by rw [← HER.out, g1]
    have G2 := Lib.hid g2
    have G3 := Lib.hid g3
    clear g1 g2 g3
    have t0 := hT3.at_ (i := 0) rfl; have t1 := hT3.at_ (i := 1) rfl; have t2 := hT3.at_ (i := 2) rfl; have t3 := hT3.at_ (i := 3) rfl; have t4 := hT3.at_ (i := 4) rfl; have t5 := hT3.at_ (i := 5) rfl; have t6 := hT3.at_ (i := 6) rfl
    go_wp2_with fail
    refine (HHU.out _ HB3.out).mono ?_
    rintro e w4 ⟨rfl, hb4⟩
    have hT4 := hT3.below hb4 hT3.lt
    have HB4 := Lib.hid (bel_then HB3.out hb4)
    clear t0 t1 t2 t3 t4 t5 t6 hT3 HB3 hb4
    cases hu : hasU d t with
    | true =>
      go_wp2_with fail
      go_ret
      exact ⟨rfl, HB4.out⟩
    | false =>
      obtain ⟨z1, z2, z3, z4⟩ := sz_nat HER.out
      obtain ⟨k, hk⟩ : ∃ k : Nat, (szS d t).toNat = k := ⟨_, rfl⟩
      rw [hk] at z1
      obtain rfl : sz = (k : Int) := by rw [← HZ.out, ← z1]
      have hk1 : k ≤ 65536 := by omega
      have HUF := Lib.hid hu
      obtain ⟨Z, hZ⟩ : ∃ z, List.replicate k 0 = z := ⟨_, rfl⟩
      have HVV := Lib.hid (show V = ofN (mkS d t Z l) by rw [← HV.out, mk_nou HER.out G2.out hu, hk, hZ])
      have HPT := Lib.hid (fun j x (hx : l[j]? = some x) => show sizedE d t (ofN (mkS d t Z (l.take j))).size x.1 = 0 ∧ putV d t (ofN (mkS d t Z (l.take j))) x.1 x.2 = ofN (mkS d t Z (l.take (j + 1))) ∧ (ofN (mkS d t Z (l.take j))).size ≤ 65536 from by
        have h := steps_put HER.out G2.out hx
        rw [hk, hZ] at h
        exact h)
      have HLA := Lib.hid (fun j x (hj : j + 1 = l.length) (hx : l[j]? = some x) y => steps_last HER.out G2.out hu hj hx y)
      rw [HV.out] at HLA
      have hmk := make_bytes w4 k hk1
      rw [List.append_nil] at hmk
      have hby : ByA (w4.alloc (.cells (byC (List.replicate k 0)).toArray 5)) w4.heap.size (List.replicate k 0) [] := .of_bk (by rw [List.append_nil]; exact Bk.new w4 5 _)
      have hcv := conv_back hby (zero_lt k) k
      rw [List.length_replicate] at hcv
      have hT5 := hT4.alloc (.cells (byC (List.replicate k 0)).toArray 5)
      have HB5 := Lib.hid (bel_alloc HB4.out (.cells (byC (List.replicate k 0)).toArray 5))
      rw [hZ] at hmk hcv hT5 HB5
      have HZZ := Lib.hid hZ
      clear hu hk z1 z2 z3 z4 hby hT4 HB4 hZ
      go_upto_region 8 with (fail)
      generalize World.alloc w4 _ = W5 at hT5 HB5 ⊢
      clear hmk hcv
      have HT5 := Lib.hid hT5
      clear hT5
      go_wp2_with fail
      go_loopw [12, 13] (fun s12 s13 wr => ∃ j : Nat, j ≤ n ∧ s13 = .int .i64 j ∧ s12 = .string (ofN (mkS d t Z (l.take j))) ∧ Below w.heap.size w wr ∧ Bk wr w.heap.size 38 #[v0, v1, v2, v3, v4, v5, v6]) (fun _ i _ => n - (intOf i).toNat)
      case atStart => exact ⟨0, Nat.zero_le _, rfl, rfl, HB5.out, HT5.out⟩
      case round =>
        clear HB5 HT5
        obtain ⟨j, hj, rfl, rfl, hbel, hT⟩ := hrel
        by_cases hlt : j < n
        · obtain ⟨x, hx⟩ : ∃ x, l[j]? = some x := ⟨_, List.getElem?_eq_getElem (by have := HLN.out; omega)⟩
          obtain ⟨sb, so, PA, pc, rfl, c0, c1, hPI, hp1, hp2⟩ := HST.out.2 j x hx
          obtain ⟨e1, e2, e3⟩ := HPT.out j x hx
          obtain ⟨p, xv⟩ := x
          simp only at c0 c1 hPI hp1 hp2 e1 e2
          obtain ⟨Y, hY⟩ : ∃ y, ofN (mkS d t Z (l.take j)) = y := ⟨_, rfl⟩
          rw [hY] at e1 e2 e3 ⊢
          have HE1 := Lib.hid e1
          have HE2 := Lib.hid e2
          have HPC := Lib.hid (fun w' (hb : Below w.heap.size w w') => HPU.out w' hb PA p pc Y xv hPI hp1 hp2 (by omega))
          have HC0 := Lib.hid c0
          have HC1 := Lib.hid c1
          have HT := Lib.hid hT
          have HB := Lib.hid hbel
          obtain ⟨np, hnp⟩ : ∃ y, p.length = y := ⟨_, rfl⟩
          rw [hnp] at HC0 HPC
          clear e1 e2 e3 c0 c1 hPI hp1 hp2 hx hbel hT hY hnp
          obtain ⟨wo, rfl⟩ : ∃ wo : World, wo = wr := ⟨_, rfl⟩
          go_upto_region 11 with (fail)
          refine wp_region_held_drew (S := fun W' => Below wo.heap.size wo W') (by kernel_rfl) (bel_drew (Below.refl _ _)) (fun hHeld => ?_)
          refine wpAnyH_take (i := 0) (oi := ⟨some 61, Op.load 38 (Operand.tmp 2), 38, "law.go:82", #[], none⟩) (v := .agg #[v0, v1, v2, v3, v4, v5, v6]) rfl (by kernel_rfl) (by kernel_rfl) (by kernel_rfl) (fun _ _ _ h => h) (Or.inl ⟨by rfl, fun w' hw' => ?_⟩) (by assumption) ?_
          · have hk2 := HT.out.below hw' HT.out.lt
            have r0 := hk2.at_ (i := 0) rfl; have r1 := hk2.at_ (i := 1) rfl; have r2 := hk2.at_ (i := 2) rfl; have r3 := hk2.at_ (i := 3) rfl; have r4 := hk2.at_ (i := 4) rfl; have r5 := hk2.at_ (i := 5) rfl; have r6 := hk2.at_ (i := 6) rfl
            go_simp
          simp only [Act.put, List.setIfInBounds_toArray, List.set_cons_zero, List.set_cons_succ]
          refine wpAnyH_take (i := 1) (oi := ⟨some 62, Op.move (Operand.tmp 12), 9, "law.go:82", #[], none⟩) (v := .string Y) rfl (by kernel_rfl) (by kernel_rfl) (by kernel_rfl) (fun _ _ _ h => h) (Or.inl ⟨by rfl, fun w' hw' => ?_⟩) (by assumption) ?_
          · skip
            go_simp
          simp only [Act.put, List.setIfInBounds_toArray, List.set_cons_zero, List.set_cons_succ]
          refine wpAnyH_take (i := 2) (oi := ⟨some 63, Op.move (Operand.tmp 1), 64, "law.go:82", #[], none⟩) (v := .slice (some ⟨sb, so, none⟩) n c) rfl (by kernel_rfl) (by kernel_rfl) (by kernel_rfl) (fun _ _ _ h => h) (Or.inl ⟨by rfl, fun w' hw' => ?_⟩) (by assumption) ?_
          · skip
            go_simp
          simp only [Act.put, List.setIfInBounds_toArray, List.set_cons_zero, List.set_cons_succ]
          refine wpAnyH_take (i := 3) (oi := ⟨some 64, Op.move (Operand.tmp 13), 3, "law.go:82", #[], none⟩) (v := .int .i64 j) rfl (by kernel_rfl) (by kernel_rfl) (by kernel_rfl) (fun _ _ _ h => h) (Or.inl ⟨by rfl, fun w' hw' => ?_⟩) (by assumption) ?_
          · skip
            go_simp
          simp only [Act.put, List.setIfInBounds_toArray, List.set_cons_zero, List.set_cons_succ]
          refine wpAnyH_take (i := 4) (oi := ⟨some 65, Op.indexAddr 64 (Operand.tmp 63) (Operand.tmp 64), 0, "law.go:82", #[⟨2, Ground.data⟩, ⟨3, Ground.data⟩], none⟩) (v := .pointer (some ⟨sb, so + j * 2, none⟩)) rfl (by kernel_rfl) (by kernel_rfl) (by kernel_rfl) (fun _ _ _ h => h) (Or.inl ⟨by rfl, fun w' hw' => ?_⟩) (by assumption) ?_
          · skip
            go_simp
          simp only [Act.put, List.setIfInBounds_toArray, List.set_cons_zero, List.set_cons_succ]
          refine wpAnyH_take (i := 5) (oi := ⟨some 66, Op.fieldAddr 77 (Operand.tmp 65) 0, 0, "law.go:82", #[⟨4, Ground.data⟩], none⟩) (v := .pointer (some ⟨sb, so + j * 2, none⟩)) rfl (by kernel_rfl) (by kernel_rfl) (by kernel_rfl) (fun _ _ _ h => h) (Or.inl ⟨by rfl, fun w' hw' => ?_⟩) (by assumption) ?_
          · skip
            go_simp
          simp only [Act.put, List.setIfInBounds_toArray, List.set_cons_zero, List.set_cons_succ]
          refine wpAnyH_take (i := 6) (oi := ⟨some 67, Op.load 39 (Operand.tmp 66), 39, "law.go:82", #[⟨5, Ground.data⟩], none⟩) (v := .slice PA np pc) rfl (by kernel_rfl) (by kernel_rfl) (by kernel_rfl) (fun _ _ _ h => h) (Or.inl ⟨by rfl, fun w' hw' => ?_⟩) (by assumption) ?_
          · have r0 := bel_cell (bel_then HB.out hw') HC0.out
            go_simp
          simp only [Act.put, List.setIfInBounds_toArray, List.set_cons_zero, List.set_cons_succ]
          refine wpAnyH_take (i := 7) (oi := ⟨some 68, Op.move (Operand.tmp 1), 64, "law.go:82", #[], none⟩) (v := .slice (some ⟨sb, so, none⟩) n c) rfl (by kernel_rfl) (by kernel_rfl) (by kernel_rfl) (fun _ _ _ h => h) (Or.inl ⟨by rfl, fun w' hw' => ?_⟩) (by assumption) ?_
          · skip
            go_simp
          simp only [Act.put, List.setIfInBounds_toArray, List.set_cons_zero, List.set_cons_succ]
          refine wpAnyH_take (i := 8) (oi := ⟨some 69, Op.move (Operand.tmp 13), 3, "law.go:82", #[], none⟩) (v := .int .i64 j) rfl (by kernel_rfl) (by kernel_rfl) (by kernel_rfl) (fun _ _ _ h => h) (Or.inl ⟨by rfl, fun w' hw' => ?_⟩) (by assumption) ?_
          · skip
            go_simp
          simp only [Act.put, List.setIfInBounds_toArray, List.set_cons_zero, List.set_cons_succ]
          refine wpAnyH_take (i := 9) (oi := ⟨some 70, Op.indexAddr 64 (Operand.tmp 68) (Operand.tmp 69), 0, "law.go:82", #[⟨7, Ground.data⟩, ⟨8, Ground.data⟩], none⟩) (v := .pointer (some ⟨sb, so + j * 2, none⟩)) rfl (by kernel_rfl) (by kernel_rfl) (by kernel_rfl) (fun _ _ _ h => h) (Or.inl ⟨by rfl, fun w' hw' => ?_⟩) (by assumption) ?_
          · skip
            go_simp
          simp only [Act.put, List.setIfInBounds_toArray, List.set_cons_zero, List.set_cons_succ]
          refine wpAnyH_take (i := 10) (oi := ⟨some 71, Op.fieldAddr 77 (Operand.tmp 70) 1, 0, "law.go:82", #[⟨9, Ground.data⟩], none⟩) (v := .pointer (some ⟨sb, so + j * 2 + 1, none⟩)) rfl (by kernel_rfl) (by kernel_rfl) (by kernel_rfl) (fun _ _ _ h => h) (Or.inl ⟨by rfl, fun w' hw' => ?_⟩) (by assumption) ?_
          · skip
            go_simp
          simp only [Act.put, List.setIfInBounds_toArray, List.set_cons_zero, List.set_cons_succ]
          refine wpAnyH_take (i := 11) (oi := ⟨some 72, Op.load 2 (Operand.tmp 71), 2, "law.go:82", #[⟨10, Ground.data⟩], none⟩) (v := .int .i64 xv) rfl (by kernel_rfl) (by kernel_rfl) (by kernel_rfl) (fun _ _ _ h => h) (Or.inl ⟨by rfl, fun w' hw' => ?_⟩) (by assumption) ?_
          · have r1 := bel_cell (bel_then HB.out hw') HC1.out
            go_simp
          simp only [Act.put, List.setIfInBounds_toArray, List.set_cons_zero, List.set_cons_succ]
          refine wpAnyH_ready (rs := [12]) (by kernel_rfl) (by simp) ?_
          refine AllReadyH.cons (o := ⟨some 73, Op.call { callee := Callee.value (Operand.func 61), args := #[Operand.tmp 61, Operand.tmp 62, Operand.tmp 67, Operand.tmp 72], argTypes := #[38, 9, 39, 2] }, 72, "law.go:82", #[⟨0, Ground.data⟩, ⟨1, Ground.data⟩, ⟨6, Ground.data⟩, ⟨11, Ground.data⟩], none⟩) rfl (fun K hK => ?_) AllReadyH.nil
          go_simp
          refine (HPC.out _ (bel_then HB.out hHeld)).mono ?_
          unfold PutP
          rintro e w7 ⟨rfl, hb7⟩
          rw [HE1.out, HE2.out]
          have hb8 := bel_then hHeld hb7
          refine hK.out _ _ hb8 (fun hHeld7 => ?_)
          clear hK K
          obtain ⟨Y2, hY2⟩ : ∃ y, ofN (mkS d t Z (l.take (j + 1))) = y := ⟨_, rfl⟩
          have HY2 := Lib.hid hY2
          rw [hY2]
          clear hY2
          refine wpAnyH_take (i := 13) (oi := ⟨some 60, Op.move (Operand.tmp 73), 72, "law.go:82", #[⟨12, Ground.data⟩], none⟩) (v := .tuple #[.string Y2, .int .i64 0]) rfl (by kernel_rfl) (by kernel_rfl) (by kernel_rfl) (fun _ _ _ h => h) (Or.inl ⟨by rfl, fun w' hw' => ?_⟩) (by assumption) ?_
          · skip
            go_simp
          simp only [Act.put, List.setIfInBounds_toArray, List.set_cons_zero, List.set_cons_succ]
          refine wpAnyH_take (i := 14) (oi := ⟨some 74, Op.extract (Operand.tmp 60) 0, 9, "law.go:82", #[⟨13, Ground.data⟩], none⟩) (v := .string Y2) rfl (by kernel_rfl) (by kernel_rfl) (by kernel_rfl) (fun _ _ _ h => h) (Or.inl ⟨by rfl, fun w' hw' => ?_⟩) (by assumption) ?_
          · skip
            go_simp
          simp only [Act.put, List.setIfInBounds_toArray, List.set_cons_zero, List.set_cons_succ]
          refine wpAnyH_take (i := 15) (oi := ⟨some 75, Op.extract (Operand.tmp 60) 1, 23, "law.go:82", #[⟨13, Ground.data⟩, { on := 16, ground := Ground.gcOnly Departure.lateStores }], none⟩) (v := .int .i64 0) rfl (by kernel_rfl) (by kernel_rfl) (by kernel_rfl) (fun _ _ _ h => h) (Or.inl ⟨by rfl, fun w' hw' => ?_⟩) (by assumption) ?_
          · skip
            go_simp
          simp only [Act.put, List.setIfInBounds_toArray, List.set_cons_zero, List.set_cons_succ]
          refine wpAnyH_take (i := 16) (oi := ⟨some 14, Op.assign (Operand.tmp 74), 9, "law.go:82", #[⟨14, Ground.data⟩, ⟨12, Ground.chain⟩, ⟨0, Ground.phase⟩, ⟨1, Ground.phase⟩, ⟨2, Ground.phase⟩, ⟨3, Ground.phase⟩, ⟨4, Ground.phase⟩, ⟨5, Ground.phase⟩, ⟨6, Ground.phase⟩, ⟨7, Ground.phase⟩, ⟨8, Ground.phase⟩, ⟨9, Ground.phase⟩, ⟨10, Ground.phase⟩, ⟨11, Ground.phase⟩, ⟨12, Ground.phase⟩, ⟨13, Ground.phase⟩, ⟨14, Ground.phase⟩, { on := 15, ground := Ground.textOnly Departure.lateStores }], none⟩) (v := .string Y2) rfl (by kernel_rfl) (by kernel_rfl) (by kernel_rfl) (fun _ _ _ h => h) (Or.inl ⟨by rfl, fun w' hw' => ?_⟩) (by assumption) ?_
          · skip
            go_simp
          simp only [Act.put, List.setIfInBounds_toArray, List.set_cons_zero, List.set_cons_succ]
          refine wpAnyH_take (i := 17) (oi := ⟨some 15, Op.assign (Operand.tmp 75), 23, "law.go:82", #[⟨15, Ground.data⟩, ⟨16, Ground.chain⟩, ⟨0, Ground.phase⟩, ⟨1, Ground.phase⟩, ⟨2, Ground.phase⟩, ⟨3, Ground.phase⟩, ⟨4, Ground.phase⟩, ⟨5, Ground.phase⟩, ⟨6, Ground.phase⟩, ⟨7, Ground.phase⟩, ⟨8, Ground.phase⟩, ⟨9, Ground.phase⟩, ⟨10, Ground.phase⟩, ⟨11, Ground.phase⟩, ⟨12, Ground.phase⟩, ⟨13, Ground.phase⟩, ⟨14, Ground.phase⟩, ⟨15, Ground.phase⟩, ⟨16, Ground.phase⟩], none⟩) (v := .int .i64 0) rfl (by kernel_rfl) (by kernel_rfl) (by kernel_rfl) (fun _ _ _ h => h) (Or.inl ⟨by rfl, fun w' hw' => ?_⟩) (by assumption) ?_
          · skip
            go_simp
          simp only [Act.put, List.setIfInBounds_toArray, List.set_cons_zero, List.set_cons_succ]
          refine wpAnyH_done (by kernel_rfl) ?_ _
          have HB8 := Lib.hid hb8
          clear hb8 hb7 hHeld7 hHeld
          go_wp2_with fail
          go_roundw
          case rel => exact ⟨j + 1, by omega, by go_num, by rw [HY2.out], bel_then HB.out HB8.out, HT.out.below HB8.out HT.out.lt⟩
          case measure => simp [intOf]; omega
        · obtain rfl : j = n := by omega
          rw [List.take_of_length_le (by have := HLN.out; omega), ← HVV.out]
          have HT := Lib.hid hT
          have HB := Lib.hid hbel
          clear hbel
          by_cases h0 : 0 < j
          · obtain ⟨m, rfl⟩ : ∃ m, j = m + 1 := ⟨j - 1, by omega⟩
            obtain ⟨x, hx⟩ : ∃ x, l[m]? = some x := ⟨_, List.getElem?_eq_getElem (by have := HLN.out; omega)⟩
            obtain ⟨sb, so, PA, pc, rfl, c0, c1, hPI, hp1, hp2⟩ := HST.out.2 m x hx
            have hla := fun y => HLA.out m x HLN.out hx y
            obtain ⟨p, xv⟩ := x
            simp only at c0 c1 hPI hp1 hp2 hla
            have HLB := Lib.hid hla
            replace c0 := bel_cell HB.out c0
            replace c1 := bel_cell HB.out c1
            have HPI := Lib.hid hPI
            have HP1 := Lib.hid hp1
            have HP2 := Lib.hid hp2
            obtain ⟨np, hnp⟩ : ∃ y, p.length = y := ⟨_, rfl⟩
            rw [hnp] at c0
            have HNP := Lib.hid hnp
            obtain ⟨wo, rfl⟩ : ∃ wo : World, wo = wr := ⟨_, rfl⟩
            have e1 : (0 : Int) < ((m + 1 : Nat) : Int) := by omega
            have hT6 := hT.alloc (.cells #[.slice PA np pc, .int .i64 xv] 77)
            have h16 := Bk.new wo 77 #[.slice PA np pc, .int .i64 xv]
            have HB6 := Lib.hid (bel_alloc HB.out (.cells #[.slice PA np pc, .int .i64 xv] 77))
            clear hla hPI hp1 hp2 hx hT HT hnp
            go_upto_region 17 with (fail)
            generalize World.alloc wo _ = W6 at hT6 h16 HB6 ⊢
            have q0 := h16.at_ (i := 0) rfl; have q1 := h16.at_ (i := 1) rfl
            clear c0 c1
            clear h16
            go_wp2_with (at_builtin; refine wpList_app64 rfl (.tmp 94) (.tmp 95) rfl HNP.out (W := W6) (l := l) rfl rfl (HST.out.below HB6.out) (HPI.out.below HB6.out) HP1.out HP2.out (by have := HLN.out; omega) (by have := HLN.out; omega) ?_; intro g cap w7 hsets hbw; have hT7 := hT6.below hbw hT6.lt; have HB7 := Lib.hid (bel_then HB6.out hbw); have HST7 := Lib.hid hsets; have t0 := hT7.at_ (i := 0) rfl; have t1 := hT7.at_ (i := 1) rfl; have t2 := hT7.at_ (i := 2) rfl; have t3 := hT7.at_ (i := 3) rfl; have t4 := hT7.at_ (i := 4) rfl; have t5 := hT7.at_ (i := 5) rfl; have t6 := hT7.at_ (i := 6) rfl; clear hsets hbw hT6 hT7)
            refine (HMK2.out _ HB7.out _ _ _ _ HST7.out (by omega)).mono ?_
            unfold MakP
            rintro e w8 ⟨rfl, hb8⟩
            rw [(HLB.out _).1, (HLB.out _).2]
            have HB8 := Lib.hid (bel_then HB7.out hb8)
            clear t0 t1 t2 t3 t4 t5 t6 hb8
            go_wp2_with fail
            go_ret
            exact ⟨rfl, HB8.out⟩
          · have e1 : decide ((0 : Int) < (j : Int)) = false := decide_eq_false (by omega)
            go_wp2_with fail
            go_ret
            exact ⟨rfl, HB.out⟩
  · have hEn : (E != 0) = true := by simpa using hE0
    go_wp2_with fail
    go_ret
    exact ⟨rfl, HB3.out⟩
end Go.Proofs.Ytcggghamnmflcaa
