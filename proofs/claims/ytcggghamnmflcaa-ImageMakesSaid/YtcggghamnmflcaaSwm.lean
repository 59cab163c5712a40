/- The walk of shape.compound where its head fits: what it answers, in plain words (CmpPost). -/
import Derived.Test.YtcggghamnmflcaaSwl
import Derived.Test.YtcggghamnmflcaaFlo
import Derived.Sort.CutIn
import Derived.Deep.Cut
namespace Go.Proofs.Ytcggghamnmflcaa
open Go Go.RowKit Go.Shelf
attribute [local go_sem] wide_fn mx2_int mx_two Oper.semAt_some
set_option maxRecDepth 100000 in
set_option maxHeartbeats 8000000 in
theorem compound_yes {d : Nat} (A1 A2 : Option Addr) (sh al : Int) (c1 c2 : Nat) (pk : Bool) (l : List (Fld (Tp d))) (deep : Int) (w : World) (hc : l.length ≤ c2) (hm : c2 ≤ 9223372036854775807) (hF : FdsAt w d A2 l) (hdp : 1 ≤ deep) (hdq : deep ≤ 100)
    (hL : LieC (deep - 1)) (ha : isAlignS al = true) (hn : namedS (l.map Fld.nm) = true) (hlen : l.length ≤ 40) :
    Calls Try.prog 108 #[.agg #[.int .i64 sh, .int .i64 0, .int .i64 0, .slice A1 0 c1, .slice A2 l.length c2, .bool pk, .int .i64 al], .int .i64 deep] w fun e w' => CmpPost deep al (sh == 5) pk l w e w' := by
  have HA := Lib.hid ha
  have HN := Lib.hid hn
  clear ha hn
  refine (callsIn_wide (n := 9)).1 (callsIn_of_wp_marks Try.func108 rfl trivial ?_ rfl)
  simp only [Try.ntmps108, List.size_toArray, List.length_cons, List.length_nil, Nat.reduceAdd, Nat.reduceSub, Array.replicate_succ, Array.replicate_zero, List.push_toArray, List.append_toArray, List.nil_append, List.cons_append]
  refine wpIn_wide.2 ?_
  go_wp2
  go_step3
  go_wp2_with (first | (go_at_call 117; (with_reducible refine (isAlign_c _ _).mono ?_); rintro e w' ⟨rfl, rfl⟩; rw [HA.out]) | (go_at_call 118; refine (named_c A2 c2 l _ hc hm (hF.below (by repeat (first | exact Below.refl _ _ | apply bel_alloc)))).mono ?_; rintro e w1 ⟨rfl, hb⟩; rw [HN.out]; have t0 : Bk w1 w.heap.size 38 #[.int .i64 sh, .int .i64 0, .int .i64 0, .slice A1 0 c1, .slice A2 l.length c2, .bool pk, .int .i64 al] := (((Bk.new w 38 #[.int .i64 sh, .int .i64 0, .int .i64 0, .slice A1 0 c1, .slice A2 l.length c2, .bool pk, .int .i64 al]).alloc _).alloc _).below hb (by simp; omega); have t1 : Bk w1 (w.heap.size + 1) 3 #[.int .i64 deep] := ((Bk.new1 w _ 3 _).alloc _).below hb (by simp); have t2 : Bk w1 (w.heap.size + 1 + 1) 99 #[.int .i64 0, .int .i64 0, .slice none 0 0] := (Bk.new2 w _ _ 99 _).below hb (by simp); have u4 := t0.at_ (i := 4) rfl; have u6 := t0.at_ (i := 6) rfl; have u1 := t1.at_ (i := 0) rfl; have hz : w.heap.size + 1 + 1 < w1.heap.size := t2.lt; obtain ⟨hz0, hz1, hz2, hz3, hz4, hz5, hz6, hz7, hz8, hz9⟩ := lt_more hz; have hbw : Below w.heap.size w w1 := bel_then (by repeat (first | exact Below.refl _ _ | apply bel_alloc)) hb; clear hb) | (go_at_call 119; refine (boxes_c _ _ _ _ _).mono ?_; rintro e w' ⟨rfl, rfl⟩))
  go_step3
  go_wp2_with (go_at_call 119; refine (boxes_c _ _ _ _ _).mono ?_; rintro e w' ⟨rfl, rfl⟩)
  have hsz0 : w.heap.size ≤ w1.heap.size := hbw.size
  refine range_box (n := 9) (α := BxV) (fun T x Bx => (((T.setIfInBounds 51 (.agg #[.int .i64 x.sz, .int .i64 x.ag, .slice x.A x.n x.c])).setIfInBounds 52 (.int .i64 x.er)).setIfInBounds 11 (.pointer (some ⟨Bx, 0, none⟩))).setIfInBounds 12 (.int .i64 x.er))
    (fun x W Bx => w1.heap.size + 1 + 1 + 1 + 1 + 1 + 1 + 1 ≤ Bx ∧ Bk W Bx 99 #[.int .i64 x.sz, .int .i64 x.ag, .slice x.A x.n x.c])
    (by omega) rfl (enters_of Try.func128 (by kernel_rfl) rfl)
    (boxes_stops (deep - 1) hL 8 (by omega) A2 c2 l w (w1.heap.size + 1 + 1 + 1 + 1 + 1) (w1.heap.size + 1 + 1 + 1 + 1 + 1 + 1) hF hc hm _ ?hb ?hLb ?hDb)
    BxK_t ?hKb ?hps
    (fun pre W => CmpI w w1.heap.size #[.int .i64 sh, .int .i64 0, .int .i64 0, .slice A1 0 c1, .slice A2 l.length c2, .bool pk, .int .i64 al] deep (.slice A2 l.length c2) (sh == 5) pk al l 0 pre.length pre W)
    (fun c pre' W => CmpX w w1.heap.size #[.int .i64 sh, .int .i64 0, .int .i64 0, .slice A1 0 c1, .slice A2 l.length c2, .bool pk, .int .i64 al] deep (.slice A2 l.length c2) (sh == 5) pk al l c pre' W)
    ?hI ?hIx ?h0
    (fun x Bx s A C row h hg hr => ⟨h.1, h.2.kept hg (fun r e => (hr r e).2)⟩) ?assign ?body ?done ?stop
  case hKb => exact BxK_b (by simp; omega) (by simp) (by simp)
  case hps => exact fun _ => rfl
  case hI => exact CmpI.own (i := List.length) (by simp; omega)
  case hIx =>
    exact fun c => CmpX.own (by simp; omega) c
  case hb => exact by repeat (first | exact hbw | apply bel_alloc)
  case hLb => exact (Bk.newk (by simp)).alloc _
  case hDb => exact Bk.newk (by simp)
  case assign =>
    intro r pre x W K hi hK
    have hWs : w1.heap.size + 1 + 1 + 1 + 1 + 1 + 1 + 1 ≤ W.heap.size := hi.dp.lt
    simp only [BxV.encs, List.zip_toArray, List.zip_cons_cons, List.zip_nil_right, List.foldl_toArray', List.size_toArray, List.length_cons, List.length_nil, Nat.reduceAdd, List.foldl_cons, List.foldl_nil, List.setIfInBounds_toArray, List.set_cons_succ, List.set_cons_zero] at hK ⊢
    gi_wp2
    exact hK W.heap.size _ ((KeepsOthers.alloc _ _).from _) ⟨(Below.refl _ W).alloc hi.bel.size _, Below.heap_alloc _ _ _ (by omega), Below.heap_alloc _ _ _ (by omega)⟩ ((CmpI.own (i := List.length) (Nat.le_refl _)).alloc _ hi) ⟨hWs, Bk.new _ _ _⟩
  case body =>
    intro r pre x Bx W hr hi ha hlen2
    obtain ⟨f, hf⟩ : ∃ f, l[pre.length]? = some f := ⟨_, List.getElem?_eq_getElem hlen2⟩
    obtain ⟨b, o, nn, a1, a2, m1, m2, d1, d2, fpk, fal, hA, hbt, hnm, hty, q0, q1, q2, q3, q4, q5, q6, q7, q8⟩ := (hF.below hi.bel).at_ hf
    subst hA
    obtain ⟨at_, en, ag, L, S, e1, e2, e3, e4, e5, e6, e7, e8, e9, e10⟩ := hi.ex
    have E10 := Lib.hid e10
    have E5 := Lib.hid e5
    have HFF := Lib.hid hf
    clear e10 e5 hf
    have g0 := hi.t.at_ (i := 0) rfl
    have g4 := hi.t.at_ (i := 4) rfl
    have g5 := hi.t.at_ (i := 5) rfl
    have g1 := hi.de.at_ (i := 0) rfl
    have gi := hi.i.at_ (i := 0) rfl
    have gw := hi.wo.at_ (i := 0) rfl
    have ga := e2.at_ (i := 0) rfl
    have ge := e3.at_ (i := 0) rfl
    have go0 := e1.at_ (i := 0) rfl
    have go1 := e1.at_ (i := 1) rfl
    have go2 := e1.at_ (i := 2) rfl
    have fi := hi.i.frozen 0
    have fw := hi.wo.frozen 0
    have fa := e2.frozen 0
    have fe := e3.frozen 0
    have fo1 := e1.frozen 1
    have fo2 := e1.frozen 2
    obtain ⟨hBx, hx⟩ := ha
    have x0 := hx.at_ (i := 0) rfl
    have x1 := hx.at_ (i := 1) rfl
    have x2 := hx.at_ (i := 2) rfl
    have hWs := hi.dp.lt
    obtain ⟨y0, y1, y2, y3, y4, y5, y6⟩ := lt_seven hWs
    have yt := hi.t.lt
    have yd := hi.de.lt
    have hxl := hx.lt
    clear u1 u4 u6 hz1 hz2 hz3 hz4 hz5 hz6 hz7 hz8 hz9
    simp only [List.setIfInBounds_toArray, List.set_cons_succ, List.set_cons_zero]
    obtain ⟨xsz, xag, xA, xn, xc, xer, xok⟩ := x
    rcases xok with ⟨rfl, k1, k2, k3, k4⟩ | rfl | rfl
    · have hM : CmpM w w1.heap.size #[.int .i64 sh, .int .i64 0, .int .i64 0, .slice A1 0 c1, .slice (some ⟨b, o, none⟩) l.length c2, .bool pk, .int .i64 al] deep (.slice (some ⟨b, o, none⟩) l.length c2) pre.length at_ en ag L.length (sptC L) S W := ⟨e1, e2, e3, e4, hi.wo, hi.i, hi.sl, hi.dp, hi.t, hi.de, hi.re, hi.bel⟩
      have E0 := Lib.hid hi.er0
      gi_upto_if 74 with (fail)
      have hMc := (hM.setI hz (↑pre.length + 1)).alloc_ (.cells #[.string f.nm, .int .i64 (tsh d f.t), .int .i64 (tk d f.t), .int .i64 nn, .slice a1 m1 d1, .slice a2 m2 d2, .bool fpk, .int .i64 fal, .int .i64 f.bits] 56)
      have hkc := keeps_alloc (keeps_set (KeepsFrom.refl (w1.heap.size + 1 + 1 + 1 + 1 + 1 + 1 + 1) W) ⟨w1.heap.size + 1 + 1 + 1 + 1, 0, none⟩ (.int .i64 (↑pre.length + 1))) (.cells #[.string f.nm, .int .i64 (tsh d f.t), .int .i64 (tk d f.t), .int .i64 nn, .slice a1 m1 d1, .slice a2 m2 d2, .bool fpk, .int .i64 fal, .int .i64 f.bits] 56)
      have hxc := (hx.far (p := ⟨w1.heap.size + 1 + 1 + 1 + 1, 0, none⟩) (by simp only; omega) (.int .i64 (↑pre.length + 1))).alloc (.cells #[.string f.nm, .int .i64 (tsh d f.t), .int .i64 (tk d f.t), .int .i64 nn, .slice a1 m1 d1, .slice a2 m2 d2, .bool fpk, .int .i64 fal, .int .i64 f.bits] 56)
      have hfc : Bk ((W.setCell ⟨w1.heap.size + 1 + 1 + 1 + 1, 0, none⟩ (.int .i64 (↑pre.length + 1))).alloc (.cells #[.string f.nm, .int .i64 (tsh d f.t), .int .i64 (tk d f.t), .int .i64 nn, .slice a1 m1 d1, .slice a2 m2 d2, .bool fpk, .int .i64 fal, .int .i64 f.bits] 56)) W.heap.size 56 _ := Bk.newk (by simp)
      generalize World.alloc (W.setCell _ _) _ = Wb at hMc hkc hxc hfc ⊢
      have fa := hMc.a.frozen 0
      have ga := hMc.a.at_ (i := 0) rfl
      clear g0 g4 g5 g1 gi gw ge go0 go1 go2 fi fw fe fo1 fo2 x0 x1 x2 q0 q1 q2 q3 q4 q5 q6 q7 q8
      refine wpIn_hideK fun K hK => ?_
      gi_cut [] from 53 (fun wc => CmpM w w1.heap.size #[.int .i64 sh, .int .i64 0, .int .i64 0, .slice A1 0 c1, .slice (some ⟨b, o, none⟩) l.length c2, .bool pk, .int .i64 al] deep (.slice (some ⟨b, o, none⟩) l.length c2) (↑pre.length + 1) (if (sh == 5) = true then 0 else at_) en ag L.length (sptC L) S wc ∧ KeepsFrom (w1.heap.size + 1 + 1 + 1 + 1 + 1 + 1 + 1) W wc ∧ Bk wc Bx 99 #[.int .i64 xsz, .int .i64 xag, .slice xA xn xc] ∧ Bk wc W.heap.size 56 #[.string f.nm, .int .i64 (tsh d f.t), .int .i64 (tk d f.t), .int .i64 nn, .slice a1 m1 d1, .slice a2 m2 d2, .bool fpk, .int .i64 fal, .int .i64 f.bits])
      case first =>
        have HM := Lib.hid hMc
        have HK := Lib.hid hkc
        have HX := Lib.hid hxc
        have HF := Lib.hid hfc
        have y1' := hMc.a.lt
        have hneq : w1.heap.size + 1 ≠ W.heap.size := by omega
        have hneq2 : w1.heap.size + 1 ≠ Bx := by omega
        clear hMc hkc hxc hfc
        cases hu : (sh == 5) with
        | false =>
          gi_wp2_with fail
          gi_meet
          case rel => exact ⟨by rw [hu]; exact HM.out, HK.out, HX.out, HF.out⟩
        | true =>
          gi_wp2_with fail
          gi_meet
          case rel => exact ⟨by rw [hu]; exact HM.out.setA hz 0, keeps_set HK.out _ _, HX.out.far (by simp only; omega) _, HF.out.far (by simp only; omega) _⟩
      case rest =>
        clear hMc hkc hxc hfc fa ga y0 y1 y2 y3 y4 y5 y6 yt yd
        obtain ⟨hMc, hkc, hxc, hfc⟩ := hcut
        obtain ⟨at0, hat0⟩ : ∃ v, (if (sh == 5) = true then 0 else at_) = v := ⟨_, rfl⟩
        rw [hat0] at hMc
        have HAT := Lib.hid hat0
        clear hat0
        refine hK _ _ ?_
        gi_upto_region 18 with (fail)
        obtain ⟨bit, hbit⟩ : ∃ v, nextW pk f.bits xsz xag at0 = v := ⟨_, rfl⟩
        have HBIT := Lib.hid hbit
        have LQ : ∀ X (s : BelS X), Calls Try.prog 121 #[.agg #[.string f.nm, .int .i64 (tsh d f.t), .int .i64 (tk d f.t), .int .i64 nn, .slice a1 m1 d1, .slice a2 m2 d2, .bool fpk, .int .i64 fal, .int .i64 f.bits], .agg #[.int .i64 xsz, .int .i64 xag, .slice xA xn xc], .bool pk, .int .i64 at0] s.w fun e w'' => e = .returned (.int .i64 bit) ∧ ∃ s' : BelS X, w'' = s'.w := fun X s => by
          have := begins_t f.nm (tsh d f.t) (tk d f.t) nn fal f.bits a1 a2 m1 m2 d1 d2 fpk xsz xag xA xn xc pk at0 s.w k1 k2 k3 k4
          rw [hbit] at this
          exact this.mono fun e w'' ⟨he, hb⟩ => ⟨he, ⟨w'', bel_then s.h hb⟩, rfl⟩
        clear hbit
        refine regionIn_flo 13 (.cells #[.int .i64 0, .int .i64 0, .int .i64 0] 48) (by kernel_rfl) (by kernel_rfl) (by kernel_rfl) rfl rfl (by kernel_rfl) (fun _ => rfl) ?hal ?ex
        case hal => intro a w; go_simp
        apply Exists.intro
        apply And.intro
        · intro X hX
          have hMX := hMc.below_ hX
          have hxX := hxc.below hX hxc.lt
          have hfX := hfc.below hX hfc.lt
          have G5 := fun s => BelS.cell (hMX.t.at_ (i := 5) rfl) s
          have Ga := fun s => BelS.cell (hMX.a.at_ (i := 0) rfl) s
          have Gx0 := fun s => BelS.cell (hxX.at_ (i := 0) rfl) s
          have Gx1 := fun s => BelS.cell (hxX.at_ (i := 1) rfl) s
          have Gx2 := fun s => BelS.cell (hxX.at_ (i := 2) rfl) s
          have Gf0 := fun s => BelS.cell (hfX.at_ (i := 0) rfl) s
          have Gf1 := fun s => BelS.cell (hfX.at_ (i := 1) rfl) s
          have Gf2 := fun s => BelS.cell (hfX.at_ (i := 2) rfl) s
          have Gf3 := fun s => BelS.cell (hfX.at_ (i := 3) rfl) s
          have Gf4 := fun s => BelS.cell (hfX.at_ (i := 4) rfl) s
          have Gf5 := fun s => BelS.cell (hfX.at_ (i := 5) rfl) s
          have Gf6 := fun s => BelS.cell (hfX.at_ (i := 6) rfl) s
          have Gf7 := fun s => BelS.cell (hfX.at_ (i := 7) rfl) s
          have Gf8 := fun s => BelS.cell (hfX.at_ (i := 8) rfl) s
          simp only [List.take_succ_cons, List.take_zero]
          repeat (go_big_quiet_step ((go_at_call 121; exact LQ X _)))
          exact wpQuiet_nil rfl
        · intro u w2 hb2 hu hz2
          simp only [List.drop_succ_cons, List.drop_zero]
          have hs2 : Bk w2 u 48 #[.int .i64 0, .int .i64 0, .int .i64 0] := hz2
          have pf8 := (hfc.below hb2 hfc.lt).at_ (i := 8) rfl
          have rs0 := hs2.frozen 0
          have rs1 := hs2.frozen 1
          have rs2 := hs2.frozen 2
          have ps0 := hs2.at_ (i := 0) rfl
          have ps1 := hs2.at_ (i := 1) rfl
          have ps2 := hs2.at_ (i := 2) rfl
          have hwi : w1.heap.size + 1 + 1 + 1 + 1 + 1 + 1 < u := by have := hMc.lt; omega
          have hwu : W.heap.size < u := Nat.lt_of_lt_of_le hfc.lt hu
          have hxu : Bx < u := by omega
          gi_upto_if 93 with (fail)
          have hb3 : Below wc.heap.size wc (((w2.setCell ⟨u, 0, none⟩ (.int .i64 bit)).setCell ⟨u, 1, none⟩ (.int .i64 (8 * xsz))).setCell ⟨u, 2, none⟩ (.int .i64 (tk d f.t))) := ((hb2.setCell (p := ⟨u, 0, none⟩) hu _).setCell (p := ⟨u, 1, none⟩) hu _).setCell (p := ⟨u, 2, none⟩) hu _
          have hs3 : Bk (((w2.setCell ⟨u, 0, none⟩ (.int .i64 bit)).setCell ⟨u, 1, none⟩ (.int .i64 (8 * xsz))).setCell ⟨u, 2, none⟩ (.int .i64 (tk d f.t))) u 48 #[.int .i64 bit, .int .i64 (8 * xsz), .int .i64 (tk d f.t)] := ((hs2.set_ 0 _).set_ 1 _).set_ 2 _
          generalize World.setCell _ _ _ = W3 at hb3 hs3 ⊢
          clear pf8 rs0 rs1 rs2 ps0 ps1 ps2 hs2 hz2 hb2 LQ
          have HB3 := Lib.hid hb3
          have HS3 := Lib.hid hs3
          have qs1 := hs3.at_ (i := 1) rfl
          have rs1 := hs3.frozen 1
          have qf8 := (hfc.below hb3 hfc.lt).at_ (i := 8) rfl
          clear hb3 hs3
          gi_cut [] from 53 (fun wx => Below wc.heap.size wc wx ∧ Bk wx u 48 #[.int .i64 bit, .int .i64 (if f.bits < 0 then 8 * xsz else f.bits), .int .i64 (tk d f.t)])
          case first =>
            by_cases hb : f.bits < 0
            · gi_wp2_with fail
              gi_meet
              case rel => exact ⟨HB3.out, by rw [if_pos hb]; exact HS3.out⟩
            · gi_wp2_with fail
              gi_meet
              case rel => exact ⟨HB3.out.setCell (p := ⟨u, 1, none⟩) hu _, by rw [if_neg (by omega)]; exact HS3.out.set_ 1 _⟩
          case rest =>
            clear HB3 HS3 qs1 rs1 qf8
            obtain ⟨hb4, hs4⟩ := hcut
            obtain ⟨wd, hwd⟩ : ∃ v, (if f.bits < 0 then 8 * xsz else f.bits) = v := ⟨_, rfl⟩
            rw [hwd] at hs4
            have HWD := Lib.hid hwd
            clear hwd
            have hM4 := hMc.below_ hb4
            have hk4 := keeps_below hkc hb4
            have hx4 := hxc.below hb4 hxc.lt
            have hf4 := hfc.below hb4 hfc.lt
            clear hMc hkc hxc hfc hb4
            gi_upto_region 21 with (fail)
            have qt5 := hM4.t.at_ (i := 5) rfl
            have qf0 := hf4.at_ (i := 0) rfl
            gi_cut [104] from 53 (fun s104 wx => s104 = .bool (!pk && !f.nm.toList.isEmpty) ∧ wx = wc)
            case first =>
              cases pk with
              | true =>
                gi_wp2_with fail
                gi_meet
                case rel => exact ⟨rfl, rfl⟩
              | false =>
                cases he : f.nm.toList.isEmpty with
                | true =>
                  gi_wp2_with fail
                  gi_meet
                  case rel => exact ⟨by rw [he]; rfl, rfl⟩
                | false =>
                  gi_wp2_with fail
                  gi_meet
                  case rel => exact ⟨by rw [he]; rfl, rfl⟩
            case rest =>
              obtain ⟨rfl, rfl⟩ := hcut
              clear qt5 qf0
              obtain ⟨cb, hcb⟩ : ∃ v, (!pk && !f.nm.toList.isEmpty) = v := ⟨_, rfl⟩
              rw [hcb]
              have HCB := Lib.hid hcb
              clear hcb
              gi_upto_if 104 with (fail)
              have HM4 := Lib.hid hM4
              have HK4 := Lib.hid hk4
              have HX4 := Lib.hid hx4
              have HS4 := Lib.hid hs4
              have qo1 := hM4.o.at_ (i := 1) rfl
              have ro1 := hM4.o.frozen 1
              have qx1 := hx4.at_ (i := 1) rfl
              have hbo : w1.heap.size ≠ u := by omega
              have hbx : w1.heap.size ≠ Bx := by omega
              clear hM4 hk4 hx4 hs4 hf4
              gi_cut [] from 53 (fun wx => CmpM w w1.heap.size #[.int .i64 sh, .int .i64 0, .int .i64 0, .slice A1 0 c1, .slice (some ⟨b, o, none⟩) l.length c2, .bool pk, .int .i64 al] deep (.slice (some ⟨b, o, none⟩) l.length c2) (↑pre.length + 1) at0 en (if cb = true then mx ag xag else ag) L.length (sptC L) S wx ∧ KeepsFrom (w1.heap.size + 1 + 1 + 1 + 1 + 1 + 1 + 1) W wx ∧ Bk wx u 48 #[.int .i64 bit, .int .i64 wd, .int .i64 (tk d f.t)])
              case first =>
                cases cb with
                | false =>
                  gi_wp2_with fail
                  gi_meet
                  case rel => exact ⟨HM4.out, HK4.out, HS4.out⟩
                | true =>
                  gi_wp2_with fail
                  gi_meet
                  case rel => exact ⟨HM4.out.setG hz _, keeps_set HK4.out _ _, HS4.out.far (by simp only; omega) _⟩
              case rest =>
                clear HM4 HK4 HX4 HS4 qo1 ro1 qx1
                obtain ⟨hM5, hk5, hs5⟩ := hcut
                have qa := hM5.a.at_ (i := 0) rfl
                have qe := hM5.e.at_ (i := 0) rfl
                have ra := hM5.a.frozen 0
                have re := hM5.e.frozen 0
                have qs0 := hs5.at_ (i := 0) rfl
                have qs1 := hs5.at_ (i := 1) rfl
                have hn1 : w1.heap.size + 1 ≠ u := by omega
                have hn2 : w1.heap.size + 1 + 1 ≠ u := by omega
                gi_upto_region 25 with (fail)
                have hM6 := (hM5.setA hz (wrap64 (bit + wd))).setE hz (mx en (wrap64 (bit + wd)))
                have hk6 := keeps_set (keeps_set hk5 ⟨w1.heap.size + 1, 0, none⟩ (.int .i64 (wrap64 (bit + wd)))) ⟨w1.heap.size + 1 + 1, 0, none⟩ (.int .i64 (mx en (wrap64 (bit + wd))))
                have hs6 := (hs5.far (p := ⟨w1.heap.size + 1, 0, none⟩) (by simp only; omega) (.int .i64 (wrap64 (bit + wd)))).far (p := ⟨w1.heap.size + 1 + 1, 0, none⟩) (by simp only; omega) (.int .i64 (mx en (wrap64 (bit + wd))))
                generalize World.setCell _ _ _ = W6 at hM6 hk6 hs6 ⊢
                clear qa qe ra re qs0 qs1 hM5 hk5 hs5
                obtain ⟨i0, hi0, hz0', hz1', hz2'⟩ := info_parts info48
                have qo2 := hM6.o.at_ (i := 2) rfl
                have qs0 := hs6.at_ (i := 0) rfl
                have qs1 := hs6.at_ (i := 1) rfl
                have qs2 := hs6.at_ (i := 2) rfl
                have hL40 : L.length < 40 := by have := E5.out; omega
                have hb6 := hM6.lt
                gi_wp2_with (gi_at_builtin; refine wpListIn_append_own _ rfl (.tmp 120) (.tmp 122) 42 rfl (w1.heap.size + 1 + 1 + 1 + 1 + 1 + 1 + 1) 48 i0 _ 3 24 Try.underlying42 hi0 hz0' hz1' hz2' rfl (by decide) _ _ _ rfl (hM6.r.alloc _) ⟨W6.heap.size, 0, none⟩ 1 1 [.int .i64 bit, .int .i64 wd, .int .i64 (tk d f.t)] rfl rfl (new_cells _ _ _) (by simp [Value.oneCell']) (by unfold maxLen; omega) (by omega) (by simp; omega) ?_; intro v' w7 hown' hgrow _; obtain ⟨g', cap', rfl⟩ := ownsRow_succ hown'; have hM7 := (hM6.alloc_ (.cells #[.int .i64 bit, .int .i64 wd, .int .i64 (tk d f.t)] 48)).app hz hown' hgrow; have hk7 := keeps_set (keeps_app (keeps_alloc hk6 (.cells #[.int .i64 bit, .int .i64 wd, .int .i64 (tk d f.t)] 48)) (hM6.r.alloc _) hgrow) ⟨w1.heap.size, 2, none⟩ (.slice (some ⟨g', 0, none⟩) (L.length + 1) cap'); have qo7 := (((hM6.alloc_ (.cells #[.int .i64 bit, .int .i64 wd, .int .i64 (tk d f.t)] 48)).o.grown hgrow (own_ne' hM6.r (by omega))).at_ (i := 2) rfl); have ro7 := (((hM6.alloc_ (.cells #[.int .i64 bit, .int .i64 wd, .int .i64 (tk d f.t)] 48)).o.grown hgrow (own_ne' hM6.r (by omega))).frozen 2))
                refine ⟨hk7, ⟨below_both hM.bel hM7.bel hk7.size, hM7.sl.trans hM.sl.symm, hM7.dp.trans hM.dp.symm⟩, ?_⟩
                rw [← sptC_snoc L ⟨bit, wd, tk d f.t⟩] at hM7
                refine hM7.ends (by simp) (by simp) (by simp [E5.out]) (wrap64_I64 _) (mx_I64 e7 (wrap64_I64 _)) (by unfold mx; split <;> (try split) <;> omega) (by unfold mx; split <;> (try split) <;> omega) (fun hp => ?_) (er_snoc E0.out rfl)
                refine (layK_step HA.out hlen HFF.out E0.out rfl E10.out hp).trans ?_
                unfold layW
                dsimp only
                rw [HAT.out, HBIT.out, HWD.out, HCB.out]
    · gi_wp2_with fail
      exact ⟨keeps_alloc (keeps_set (keeps_set (KeepsFrom.refl _ _) _ _) _ _) _, rfl, pre, _, 100, rfl, hlen2, .inl ⟨rfl, rfl⟩, CmpI.below_ ((hi.setI hz _ (pre.length + 1) (by simp)).setWo hz 100) (bel_alloc (Below.refl _ _) _)⟩
    · gi_wp2_with fail
      have hc2' := CmpI.below_ (hi.setI hz (↑pre.length + 1) (pre.length + 1) (by simp)) (bel_alloc (Below.refl _ _) (.cells #[.string f.nm, .int .i64 (tsh d f.t), .int .i64 (tk d f.t), .int .i64 nn, .slice a1 m1 d1, .slice a2 m2 d2, .bool fpk, .int .i64 fal, .int .i64 f.bits] 56))
      have hkc := keeps_alloc (keeps_set (KeepsFrom.refl (w1.heap.size + 1 + 1 + 1 + 1 + 1 + 1 + 1) W) ⟨w1.heap.size + 1 + 1 + 1 + 1, 0, none⟩ (.int .i64 (↑pre.length + 1))) (.cells #[.string f.nm, .int .i64 (tsh d f.t), .int .i64 (tk d f.t), .int .i64 nn, .slice a1 m1 d1, .slice a2 m2 d2, .bool fpk, .int .i64 fal, .int .i64 f.bits] 56)
      generalize World.alloc (World.setCell W _ _) _ = wc at hc2' hkc ⊢
      clear g0 g4 g5 g1 gi gw ga ge go0 go1 go2 fi fw fa fe fo1 fo2 x0 x1 x2 y0 y1 y2 y3 y4 y5 y6 yt yd
      have G4 := fun s => BelS.cell (hc2'.t.at_ (i := 4) rfl) s
      have Gi := fun s => BelS.cell (hc2'.i.at_ (i := 0) rfl) s
      have Gd := fun s => BelS.cell (hc2'.de.at_ (i := 0) rfl) s
      refine regionIn_tail (C := fun w' => ∃ s : BelS wc, w' = s.w) 7 (by kernel_rfl) (by kernel_rfl) (by kernel_rfl) ⟨⟨_, bel_drew (Below.refl _ _)⟩, rfl⟩ ?_
      simp only [List.take_succ_cons, List.take_zero, List.drop_succ_cons, List.drop_zero]
      have LQ : ∀ s : BelS wc, Calls Try.prog 120 #[.slice (if c2 = pre.length + 1 then some ⟨b, o, none⟩ else some ⟨b, o + (pre.length + 1) * 9, none⟩) (l.length - (pre.length + 1)) (c2 - (pre.length + 1)), .int .i64 (deep - 1)] s.w fun e w'' => e = .returned (.int .i64 (laterS d (l.drop (pre.length + 1)) (deep - 1))) ∧ ∃ s' : BelS wc, w'' = s'.w := fun s => by
        have := later_c (deep - 1) hL _ (c2 - (pre.length + 1)) (l.drop (pre.length + 1)) s.w ((hF.below (bel_then hc2'.bel s.h)).drop_ hc (pre.length + 1)) (by rw [List.length_drop]; omega) (by omega)
        rw [List.length_drop] at this
        exact this.mono fun e w'' ⟨he, hb⟩ => ⟨he, ⟨w'', bel_then s.h hb⟩, rfl⟩
      repeat (go_big_quiet_step ((go_at_call 120; exact LQ _)))
      refine wpQuiet_nil ?_
      rintro _ ⟨⟨w2, hb2⟩, rfl⟩
      have hc3 := hc2'.below_ hb2
      have G3 := hc3.wo.at_ (i := 0) rfl
      have F3 := hc3.wo.frozen 0
      gi_wp2_with fail
      all_goals
        first
        | exact ⟨keeps_set (keeps_below hkc hb2) _ _, rfl, pre, _, _, rfl, hlen2, .inr ⟨rfl, rfl⟩, hc3.setWo hz _⟩
        | (have hq : c2 = pre.length + 1 := by assumption
           rw [hq] at hc3
           exact ⟨keeps_set (keeps_below hkc hb2) _ _, rfl, pre, _, _, rfl, hlen2, .inr ⟨rfl, rfl⟩, hc3.setWo hz _⟩)
  case h0 =>
    have hag := lay0_rng HA.out
    obtain ⟨-, -, -, -, ha1, ha2⟩ := hag
    refine ⟨⟨0, 0, mx 1 al, [], .slice none 0 0, ?_, ?_, ?_, World.ownsRow_nil _ _ _ _, rfl, ⟨by decide, by decide⟩, ⟨by decide, by decide⟩, ha1, ha2, fun _ => by unfold layK; simp [lay0]⟩, fun x hx => by simp at hx, ?_, ?_, ?_, ?_, ?_, ?_, ?_, ?_⟩
    all_goals repeat (first | exact t0 | exact t1 | exact t2 | exact hbw | (refine Bk.newk ?_; simp only [World.size_alloc]; done) | apply bel_alloc | refine Bk.alloc ?_ _)
  case done =>
    intro D xs W hD hxs hi hK
    obtain ⟨at_, en, ag, L, S, e1, e2, e3, e4, e5, e6, e7, e8, e9, e10⟩ := hi.ex
    have E0 := Lib.hid hi.er0
    clear u1 u4 u6 hz1 hz2 hz3 hz4 hz5 hz6 hz7 hz8 hz9
    have E5 := Lib.hid e5
    have E10 := Lib.hid e10
    clear e5 e10
    go_wp2_with fail
    have LQ : ∀ (v n : Int), 1 ≤ n → n ≤ 64 → ∀ s : BelS W, Calls Try.prog 122 #[.int .i64 v, .int .i64 n] s.w fun e w'' => e = .returned (.int .i64 (upW v n)) ∧ ∃ s' : BelS W, w'' = s'.w := fun v n h1 h2 s => (up_t v n s.w h1 (by omega)).mono fun e w'' ⟨he, hb⟩ => ⟨he, s, hb.symm⟩
    have Ge := fun s => BelS.cell (e3.at_ (i := 0) rfl) s
    have Gg := fun s => BelS.cell (e1.at_ (i := 1) rfl) s
    refine region_tail (C := fun w' => ∃ s : BelS W, w' = s.w) 7 (by kernel_rfl) (by kernel_rfl) ⟨⟨_, bel_drew (Below.refl _ _)⟩, rfl⟩ ?_
    simp only [List.take_succ_cons, List.take_zero, List.drop_succ_cons, List.drop_zero]
    repeat (go_big_quiet_step ((go_at_call 122; exact LQ _ _ (by omega) (by omega) _)))
    refine wpQuiet_nil ?_
    rintro _ ⟨⟨w2, hb2⟩, rfl⟩
    clear LQ Ge Gg
    have hi2 := hi.below_ hb2
    have f1 := e1.below hb2 e1.lt
    have p0 := f1.at_ (i := 0) rfl
    have r0 := f1.frozen 0
    have hw2 := f1.lt
    rw [show upW (wrap64 ((upW en 8).tdiv 8)) ag = szW en ag from rfl]
    go_upto_region 27 with (fail)
    have hE := hi2.behind hz f1 (e4.kept (grown_none hb2) (by cases S.ownBlock <;> simp)) (by simpa using hD) (heap_below hK hb2) (szW en ag)
    generalize World.setCell _ _ _ = W3 at hE ⊢
    clear p0 r0 hw2 hi2 f1 hi e1 e2 e3 e4 hb2 hK hD
    have HC := Lib.hid (layK_rng (un := (sh == 5)) (pk := pk) HA.out hxs.1 E0.out (by have := hxs.2 E0.out; omega))
    obtain ⟨sz, hsz⟩ : ∃ v, szW en ag = v := ⟨_, rfl⟩
    rw [hsz] at hE
    have HSZ := Lib.hid hsz
    clear hsz
    have p0 := hE.o.at_ (i := 0) rfl
    have pw := hE.wo.at_ (i := 0) rfl
    have rw_ := hE.wo.frozen 0
    go_upto_if 138 with (fail)
    have HE := Lib.hid hE
    clear hE
    go_cut [] from 132 (fun wx => CmpE w w1.heap.size D sz ag (if 65536 < sz then 101 else 0) L.length (sptC L) S wx)
    case first =>
      by_cases hbig : 65536 < sz
      · go_wp2_with fail
        go_meet
        case rel => rw [if_pos hbig]; exact HE.out.setW hz 101
      · go_wp2_with fail
        go_meet
        case rel => rw [if_neg (by omega)]; exact HE.out
    case rest =>
      clear HE p0 pw rw_
      obtain ⟨wo, hwo⟩ : ∃ v, (if 65536 < sz then 101 else 0 : Int) = v := ⟨_, rfl⟩
      rw [hwo] at hcut
      have HWO := Lib.hid hwo
      clear hwo
      go_upto_region 29 with (fail)
      obtain ⟨Sa, Sc, rfl, hspt⟩ := spts_of_row hcut.r
      have o0 := hcut.o.at_ (i := 0) rfl
      have o1 := hcut.o.at_ (i := 1) rfl
      have o2 := hcut.o.at_ (i := 2) rfl
      have ow := hcut.wo.at_ (i := 0) rfl
      have q0 := hcut.re.at_ (i := 0) rfl
      have q1 := hcut.re.at_ (i := 1) rfl
      have q2 := hcut.re.at_ (i := 2) rfl
      have r0 := hcut.re.frozen 0
      have r1 := hcut.re.frozen 1
      have r2 := hcut.re.frozen 2
      have hlt2 : w.heap.size + 1 + 1 < w1.heap.size + 1 + 1 + 1 := by omega
      go_region
      go_wp2_with fail
      rw [Exit.noGoto_ret]
      have h5 : Bk (((wc.setCell ⟨w.heap.size + 1 + 1, 0, none⟩ (.int .i64 sz)).setCell ⟨w.heap.size + 1 + 1, 1, none⟩ (.int .i64 ag)).setCell ⟨w.heap.size + 1 + 1, 2, none⟩ (.slice Sa L.length Sc)).drew (w.heap.size + 1 + 1) 99 #[.int .i64 sz, .int .i64 ag, .slice Sa L.length Sc] := ((hcut.re.set_ 0 _).set_ 1 _).set_ 2 _
      have hDr : w.heap.size + 1 + 1 ≠ D := by have := hcut.hD; omega
      have d5 : (((wc.setCell ⟨w.heap.size + 1 + 1, 0, none⟩ (.int .i64 sz)).setCell ⟨w.heap.size + 1 + 1, 1, none⟩ (.int .i64 ag)).setCell ⟨w.heap.size + 1 + 1, 2, none⟩ (.slice Sa L.length Sc)).drew.heap[D]? = some (.deferred (some [])) := (Below.heap_setCell _ _ _ D hDr.symm).trans ((Below.heap_setCell _ _ _ D hDr.symm).trans ((Below.heap_setCell _ _ _ D hDr.symm).trans hcut.d))
      have b5 : Below w.heap.size w (((wc.setCell ⟨w.heap.size + 1 + 1, 0, none⟩ (.int .i64 sz)).setCell ⟨w.heap.size + 1 + 1, 1, none⟩ (.int .i64 ag)).setCell ⟨w.heap.size + 1 + 1, 2, none⟩ (.slice Sa L.length Sc)).drew := bel_drew (((hcut.bel.setCell (p := ⟨w.heap.size + 1 + 1, 0, none⟩) (by simp only; omega) _).setCell (p := ⟨w.heap.size + 1 + 1, 1, none⟩) (by simp only; omega) _).setCell (p := ⟨w.heap.size + 1 + 1, 2, none⟩) (by simp only; omega) _)
      have o5 : (((wc.setCell ⟨w.heap.size + 1 + 1, 0, none⟩ (.int .i64 sz)).setCell ⟨w.heap.size + 1 + 1, 1, none⟩ (.int .i64 ag)).setCell ⟨w.heap.size + 1 + 1, 2, none⟩ (.slice Sa L.length Sc)).drew.ownsRow (w1.heap.size + 1 + 1 + 1 + 1 + 1 + 1 + 1) 48 3 (.slice Sa L.length Sc) L.length (sptC L) := row_set (row_set (row_set hcut.r (by omega) 0 _) (by omega) 1 _) (by omega) 2 _
      generalize World.drew _ = W5 at h5 d5 b5 o5 ⊢
      have o6 := ownsRow_putObj o5 (.deferred none) d5 rfl
      have h6 : Bk (W5.putObj D (.deferred none)) (w.heap.size + 1 + 1) 99 #[.int .i64 sz, .int .i64 ag, .slice Sa L.length Sc] := (World.putObj_heap_other hDr).trans h5
      have b6 : Below w.heap.size w (W5.putObj D (.deferred none)) := b5.trans (belowK_b (w := w) (Nat.le_refl _) W5 D _ _ (by have := hcut.hD; omega) d5 rfl rfl)
      have c0 := h6.at_ (i := 0) rfl
      have c1' := h6.at_ (i := 1) rfl
      have c2' := h6.at_ (i := 2) rfl
      refine ⟨by simp, .inl ⟨_, _, rfl, run_takeDeferred d5, ?_⟩⟩
      refine ⟨.tuple #[.agg #[.int .i64 sz, .int .i64 ag, .slice Sa L.length Sc], .int .i64 wo], by simp [results, Try.results108, go_sem, c0, c1', c2'], ?_⟩
      obtain ⟨A', c', he, hsp⟩ := spts_of_row o6
      cases he
      have hp := hxs.1
      have hlen3 := hxs.2 E0.out
      have hk := E10.out hp
      have hR := HC.out
      have hpos := closeS_pos hR (layK_pos HA.out HN.out hp E0.out hlen3)
      have hsz := szW_is (by omega) hR
      rw [hk] at hR hpos hsz
      dsimp only at hsz
      rw [HSZ.out] at hsz
      by_cases hbig : 65536 < sz
      · have hwo : wo = 101 := by rw [← HWO.out, if_pos hbig]
        subst hwo
        exact ⟨⟨sz, ag, Sa, L.length, Sc, 101, .inr (.inr rfl)⟩, rfl, b6, .inl ⟨xs, hp, E0.out, hlen3, .inl ⟨by rw [hk, ← hsz]; exact hbig, rfl⟩⟩⟩
      · have hwo : wo = 0 := by rw [← HWO.out, if_neg hbig]
        subst hwo
        exact ⟨⟨sz, ag, Sa, L.length, Sc, 0, .inl ⟨rfl, by rw [hsz]; exact hpos, by omega, e8, e9⟩⟩, rfl, b6, .inl ⟨xs, hp, E0.out, hlen3, .inr ⟨by rw [hk, ← hsz]; omega, rfl, by rw [hk]; exact hsz, by rw [hk], by rw [hk]; exact ⟨hsp.1, fun a ha => Nat.le_trans (by omega) (hsp.2 a ha)⟩⟩⟩⟩
  case stop =>
    intro D c' pre' W hD hSp hx hK
    obtain ⟨rfl, pre, y, wo, rfl, hprl, hyw, hi⟩ := hx
    have hwo0 : (wo == 0) = false := by
      rcases hyw with ⟨_, rfl⟩ | ⟨_, rfl⟩
      · rfl
      · unfold laterS
        split <;> rfl
    have HYW := Lib.hid hyw
    clear hyw
    obtain ⟨at_, en, ag, L, S, e1, e2, e3, e4, e5, e6, e7, e8, e9, e10⟩ := hi.ex
    have E0 := Lib.hid hi.er0
    clear u1 u4 u6 hz1 hz2 hz3 hz4 hz5 hz6 hz7 hz8 hz9
    have E5 := Lib.hid e5
    have E10 := Lib.hid e10
    clear e5 e10
    go_wp2_with fail
    have LQ : ∀ (v n : Int), 1 ≤ n → n ≤ 64 → ∀ s : BelS W, Calls Try.prog 122 #[.int .i64 v, .int .i64 n] s.w fun e w'' => e = .returned (.int .i64 (upW v n)) ∧ ∃ s' : BelS W, w'' = s'.w := fun v n h1 h2 s => (up_t v n s.w h1 (by omega)).mono fun e w'' ⟨he, hb⟩ => ⟨he, s, hb.symm⟩
    have Ge := fun s => BelS.cell (e3.at_ (i := 0) rfl) s
    have Gg := fun s => BelS.cell (e1.at_ (i := 1) rfl) s
    refine region_tail (C := fun w' => ∃ s : BelS W, w' = s.w) 7 (by kernel_rfl) (by kernel_rfl) ⟨⟨_, bel_drew (Below.refl _ _)⟩, rfl⟩ ?_
    simp only [List.take_succ_cons, List.take_zero, List.drop_succ_cons, List.drop_zero]
    repeat (go_big_quiet_step ((go_at_call 122; exact LQ _ _ (by omega) (by omega) _)))
    refine wpQuiet_nil ?_
    rintro _ ⟨⟨w2, hb2⟩, rfl⟩
    clear LQ Ge Gg
    have hi2 := hi.below_ hb2
    have f1 := e1.below hb2 e1.lt
    have p0 := f1.at_ (i := 0) rfl
    have r0 := f1.frozen 0
    have hw2 := f1.lt
    rw [show upW (wrap64 ((upW en 8).tdiv 8)) ag = szW en ag from rfl]
    go_upto_region 27 with (fail)
    have hE := hi2.behind hz f1 (e4.kept (grown_none hb2) (by cases S.ownBlock <;> simp)) (by simpa using hD) (heap_below hK hb2) (szW en ag)
    generalize World.setCell _ _ _ = W3 at hE ⊢
    clear p0 r0 hw2 hi2 f1 hi e1 e2 e3 e4 hb2 hK hD
    obtain ⟨sz, hsz⟩ : ∃ v, szW en ag = v := ⟨_, rfl⟩
    rw [hsz] at hE
    clear hsz
    have p0 := hE.o.at_ (i := 0) rfl
    have pw := hE.wo.at_ (i := 0) rfl
    have hcut := Lib.hid hE
    clear hE
    go_upto_region 29 with (fail)
    replace hcut := hcut.out
    clear p0 pw
    obtain ⟨wc, hwc⟩ : ∃ x, x = W3 := ⟨_, rfl⟩
    subst hwc
    obtain ⟨Sa, Sc, rfl, hspt⟩ := spts_of_row hcut.r
    have o0 := hcut.o.at_ (i := 0) rfl
    have o1 := hcut.o.at_ (i := 1) rfl
    have o2 := hcut.o.at_ (i := 2) rfl
    have ow := hcut.wo.at_ (i := 0) rfl
    have q0 := hcut.re.at_ (i := 0) rfl
    have q1 := hcut.re.at_ (i := 1) rfl
    have q2 := hcut.re.at_ (i := 2) rfl
    have r0 := hcut.re.frozen 0
    have r1 := hcut.re.frozen 1
    have r2 := hcut.re.frozen 2
    have hlt2 : w.heap.size + 1 + 1 < w1.heap.size + 1 + 1 + 1 := by omega
    go_region
    go_wp2_with fail
    rw [Exit.noGoto_ret]
    have h5 : Bk (((wc.setCell ⟨w.heap.size + 1 + 1, 0, none⟩ (.int .i64 sz)).setCell ⟨w.heap.size + 1 + 1, 1, none⟩ (.int .i64 ag)).setCell ⟨w.heap.size + 1 + 1, 2, none⟩ (.slice Sa L.length Sc)).drew (w.heap.size + 1 + 1) 99 #[.int .i64 sz, .int .i64 ag, .slice Sa L.length Sc] := ((hcut.re.set_ 0 _).set_ 1 _).set_ 2 _
    have hDr : w.heap.size + 1 + 1 ≠ D := by have := hcut.hD; omega
    have d5 : (((wc.setCell ⟨w.heap.size + 1 + 1, 0, none⟩ (.int .i64 sz)).setCell ⟨w.heap.size + 1 + 1, 1, none⟩ (.int .i64 ag)).setCell ⟨w.heap.size + 1 + 1, 2, none⟩ (.slice Sa L.length Sc)).drew.heap[D]? = some (.deferred (some [])) := (Below.heap_setCell _ _ _ D hDr.symm).trans ((Below.heap_setCell _ _ _ D hDr.symm).trans ((Below.heap_setCell _ _ _ D hDr.symm).trans hcut.d))
    have b5 : Below w.heap.size w (((wc.setCell ⟨w.heap.size + 1 + 1, 0, none⟩ (.int .i64 sz)).setCell ⟨w.heap.size + 1 + 1, 1, none⟩ (.int .i64 ag)).setCell ⟨w.heap.size + 1 + 1, 2, none⟩ (.slice Sa L.length Sc)).drew := bel_drew (((hcut.bel.setCell (p := ⟨w.heap.size + 1 + 1, 0, none⟩) (by simp only; omega) _).setCell (p := ⟨w.heap.size + 1 + 1, 1, none⟩) (by simp only; omega) _).setCell (p := ⟨w.heap.size + 1 + 1, 2, none⟩) (by simp only; omega) _)
    have o5 : (((wc.setCell ⟨w.heap.size + 1 + 1, 0, none⟩ (.int .i64 sz)).setCell ⟨w.heap.size + 1 + 1, 1, none⟩ (.int .i64 ag)).setCell ⟨w.heap.size + 1 + 1, 2, none⟩ (.slice Sa L.length Sc)).drew.ownsRow (w1.heap.size + 1 + 1 + 1 + 1 + 1 + 1 + 1) 48 3 (.slice Sa L.length Sc) L.length (sptC L) := row_set (row_set (row_set hcut.r (by omega) 0 _) (by omega) 1 _) (by omega) 2 _
    generalize World.drew _ = W5 at h5 d5 b5 o5 ⊢
    have o6 := ownsRow_putObj o5 (.deferred none) d5 rfl
    have h6 : Bk (W5.putObj D (.deferred none)) (w.heap.size + 1 + 1) 99 #[.int .i64 sz, .int .i64 ag, .slice Sa L.length Sc] := (World.putObj_heap_other hDr).trans h5
    have b6 : Below w.heap.size w (W5.putObj D (.deferred none)) := b5.trans (belowK_b (w := w) (Nat.le_refl _) W5 D _ _ (by have := hcut.hD; omega) d5 rfl rfl)
    have c0 := h6.at_ (i := 0) rfl
    have c1' := h6.at_ (i := 1) rfl
    have c2' := h6.at_ (i := 2) rfl
    refine ⟨by simp, .inl ⟨_, _, rfl, run_takeDeferred d5, ?_⟩⟩
    refine ⟨.tuple #[.agg #[.int .i64 sz, .int .i64 ag, .slice Sa L.length Sc], .int .i64 wo], by simp [results, Try.results108, go_sem, c0, c1', c2'], ?_⟩
    obtain ⟨A', c', he, hsp⟩ := spts_of_row o6
    cases he
    rcases HYW.out with ⟨h1, h2⟩ | ⟨h1, h2⟩
    · have hw : wo = 100 := h2
      exact ⟨⟨sz, ag, Sa, L.length, Sc, wo, .inr (.inl hw)⟩, rfl, b6, .inr ⟨pre, y, hSp, E0.out, hprl, .inl ⟨h1, h2⟩⟩⟩
    · have hw : wo = 100 ∨ wo = 101 := by rw [h2]; unfold laterS; split <;> simp
      exact ⟨⟨sz, ag, Sa, L.length, Sc, wo, .inr hw⟩, rfl, b6, .inr ⟨pre, y, hSp, E0.out, hprl, .inr ⟨h1, h2⟩⟩⟩
end Go.Proofs.Ytcggghamnmflcaa
