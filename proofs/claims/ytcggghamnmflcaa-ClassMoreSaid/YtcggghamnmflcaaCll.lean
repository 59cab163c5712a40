/- The reference's Pass. -/
import Derived.Test.YtcggghamnmflcaaClk
import Derived.Test.YtcggghamnmflcaaSsc
namespace Go.Proofs.Ytcggghamnmflcaa
open Go Go.RowKit Go.Shelf
attribute [local go_sem] mx2_int mx_two
theorem info39 : (Try.prog.info? 39).map (fun i => (i.zero, i.size, i.bytes)) = some (some (.slice none 0 0), 1, 24) := by kernel_rfl
/-- The lists of classes so far, in a slice of slices. -/
structure AllI (w0 : World) (d : Nat) (ts : List (Tp d)) (j : Nat) (v : Value) (XS : List Value) (W : World) : Prop where
  len : XS.length = j
  row : W.ownsRow w0.heap.size 39 1 v j XS
  cls : ∀ (q : Nat) (x : Value) (t : Tp d), XS[q]? = some x → ts[q]? = some t → ∃ (b o c : Nat), x = Value.slice (some ⟨b, o, none⟩) (clsL d t).length c ∧ IntsAt W (some ⟨b, o, none⟩) (clsL d t).length (clsL d t) ∧ v.ownBlock ≠ some b ∧ b < W.heap.size
  bel : Below w0.heap.size w0 W
theorem AllI.below {w0 : World} {d : Nat} {ts : List (Tp d)} {j : Nat} {v : Value} {XS : List Value} {W W1 : World} (h : AllI w0 d ts j v XS W) (hb : Below W.heap.size W W1) : AllI w0 d ts j v XS W1 :=
  ⟨h.len, h.row.kept (grown_none hb) (by cases v.ownBlock <;> simp), fun q x t hx ht => by
    obtain ⟨b, o, c, e1, e2, e3, e4⟩ := h.cls q x t hx ht
    exact ⟨b, o, c, e1, e2.below hb, e3, Nat.lt_of_lt_of_le e4 hb.size⟩, h.bel.trans (hb.mono h.bel.size)⟩
theorem AllI.app {w0 : World} {d : Nat} {ts : List (Tp d)} {j : Nat} {v v' : Value} {XS : List Value} {W w7 : World} {o : Obj} {t : Tp d} {b co c : Nat} (h : AllI w0 d ts j v XS W) (ht : ts[j]? = some t)
    (hC : IntsAt W (some ⟨b, co, none⟩) (clsL d t).length (clsL d t)) (hb : v.ownBlock ≠ some b) (hbl : b < W.heap.size)
    (hown : w7.ownsRow w0.heap.size 39 1 v' (j + 1) (XS ++ [.slice (some ⟨b, co, none⟩) (clsL d t).length c])) (hg : (W.alloc o).grownBy w7 v.ownBlock) (hat : v'.ownBlock = v.ownBlock ∨ v'.ownBlock = some ((W.alloc o).heap.size)) :
    AllI w0 d ts (j + 1) v' (XS ++ [.slice (some ⟨b, co, none⟩) (clsL d t).length c]) w7 := by
  have hsz : (W.alloc o).heap.size = W.heap.size + 1 := by simp
  have key : ∀ (b' : Nat), v.ownBlock ≠ some b' → b' < W.heap.size → v'.ownBlock ≠ some b' ∧ b' < w7.heap.size := fun b' h1 h2 => by
    refine ⟨?_, by have := hg.size; omega⟩
    rcases hat with h3 | h3
    · rw [h3]; exact h1
    · rw [h3, hsz]; intro e; injection e with e; omega
  have ints : ∀ (b' o' n : Nat) (l : List Int), IntsAt W (some ⟨b', o', none⟩) n l → v.ownBlock ≠ some b' → b' < W.heap.size → IntsAt w7 (some ⟨b', o', none⟩) n l := fun b' o' n l hI h1 h2 => by
    refine ⟨hI.1, fun i u hu => ?_⟩
    obtain ⟨b2, o2, he, hc⟩ := hI.2 i u hu
    cases he
    refine ⟨b', o', rfl, ?_⟩
    have e1 : w7.heap[b']? = W.heap[b']? := (hg.block b' (by omega) (Ne.symm h1)).trans (Below.heap_alloc W o b' h2)
    rw [← hc]
    unfold World.cell?
    rw [e1]
  refine ⟨by simp [h.len], hown, fun q x t' hx ht' => ?_, ?_⟩
  · rw [List.getElem?_append] at hx
    split at hx
    · obtain ⟨b1, o1, c1, e1, e2, e3, e4⟩ := h.cls q x t' hx ht'
      obtain ⟨k1, k2⟩ := key b1 e3 e4
      exact ⟨b1, o1, c1, e1, ints _ _ _ _ e2 e3 e4, k1, k2⟩
    · rename_i hq
      have hq' : q = j := by
        have := (List.getElem?_eq_some_iff.1 hx).1
        simp at this
        have := h.len
        omega
      subst hq'
      rw [h.len, Nat.sub_self] at hx
      have : x = .slice (some ⟨b, co, none⟩) (clsL d t).length c := by simpa using hx.symm
      rw [ht] at ht'
      cases ht'
      obtain ⟨k1, k2⟩ := key b hb hbl
      exact ⟨b, co, c, this, ints _ _ _ _ hC hb hbl, k1, k2⟩
  · exact (h.bel.alloc h.bel.size o).grown hg (by have := h.bel.size; omega) (fun k e => by
      rcases h.row.2 with ⟨h1, _⟩ | ⟨g', cap, cur, h1, hbs, _, _⟩
      · rw [h1] at e; simp [Value.ownBlock] at e
      · rw [h1] at e
        have : g' = k := by simpa [Value.ownBlock] using e
        omega)
/-- The places so far. -/
structure RPo (w0 : World) (v : Value) (L : List Plw) (W : World) : Prop where
  row : W.ownsRow w0.heap.size 87 4 v L.length (plwC L)
  bel : Below w0.heap.size w0 W
theorem RPo.below {w0 : World} {v : Value} {L : List Plw} {W W1 : World} (h : RPo w0 v L W) (hb : Below W.heap.size W W1) : RPo w0 v L W1 :=
  ⟨h.row.kept (grown_none hb) (by cases v.ownBlock <;> simp), h.bel.trans (hb.mono h.bel.size)⟩
theorem RPo.app {w0 : World} {v v' : Value} {L : List Plw} {W w7 : World} {o : Obj} {x : Plw} (h : RPo w0 v L W)
    (hown : w7.ownsRow w0.heap.size 87 4 v' (L.length + 1) (plwC L ++ [.int .i64 x.arg, .int .i64 x.eight, .int .i64 x.reg, .int .i64 x.off])) (hg : (W.alloc o).grownBy w7 v.ownBlock) : RPo w0 v' (L ++ [x]) w7 := by
  refine ⟨?_, ?_⟩
  · rw [plwC_snoc, List.length_append]
    exact hown
  · have h1 := h.bel.alloc h.bel.size o
    exact h1.grown hg h1.size (fun k e => (own87 h.row k e).1)
theorem RPo.app2 {w0 : World} {v v' : Value} {L : List Plw} {W w7 : World} {o : Obj} {x : Plw} (h : RPo w0 v L W)
    (hown : w7.ownsRow w0.heap.size 87 4 v' (L.length + 1) (plwC L ++ [.int .i64 x.arg, .int .i64 x.eight, .int .i64 x.reg, .int .i64 x.off])) (hg : (W.alloc o).grownBy w7 v.ownBlock) : RPo w0 v' (L ++ [x]) w7 := h.app hown hg
theorem reg_next {i : Nat} {r : Int} {l : List Int} {j : Nat} (h : l[j]? = some 1) : regL i r (evN r l (j + 1)) = regL i r (evN r l j) ++ [⟨i, j, r + (evN r l j).length, 0⟩] ∧ (evN r l (j + 1)).length = (evN r l j).length + 1 := by
  rw [evN_yes h, regL_snoc]
  exact ⟨rfl, by simp⟩
set_option maxRecDepth 100000 in
set_option maxHeartbeats 4000000 in
theorem rpass_c {d d' : Nat} (ts : List (Tp d)) (A : Option Addr) (c : Nat) (rt : Tp d') (rv0 rv1 rv2 rv3 rv4 rv5 rv6 : Value) (w : World) (hT : TysAt w d A ts) (hl : ts.length ≤ 9223372036854775807) (hR : TyAt w d' rt [rv0, rv1, rv2, rv3, rv4, rv5, rv6]) :
    Calls Try.prog 68 #[.slice A ts.length c, .agg #[rv0, rv1, rv2, rv3, rv4, rv5, rv6]] w fun e w' => ∃ (B : Option Addr) (n c' : Nat), e = .returned (.tuple #[.slice B n c', .int .i64 (passN d d' ts rt), .int .i64 (passE d d' ts rt)]) ∧ PlwsAt w' B n (passL d d' ts rt) ∧ Below w.heap.size w w' := by
  obtain ⟨pE, hE⟩ : ∃ x, passE d d' ts rt = x := ⟨_, rfl⟩
  rw [hE]
  have HE := Lib.hid hE
  obtain ⟨pL, hL⟩ : ∃ x, passL d d' ts rt = x := ⟨_, rfl⟩
  obtain ⟨pN, hN⟩ : ∃ x, passN d d' ts rt = x := ⟨_, rfl⟩
  rw [hL, hN]
  have HPL := Lib.hid hL
  have HPN := Lib.hid hN
  clear hE hL hN
  by_cases h16 : 16 < ts.length
  · obtain rfl : pE = 2 := by rw [← HE.out]; unfold passE; rw [if_pos h16]
    obtain rfl : pL = [] := HPL.out.symm.trans (passL_0 HE.out (by decide)).1
    obtain rfl : pN = 0 := HPN.out.symm.trans (passL_0 HE.out (by decide)).2
    clear hT hR
    go_enter Try.func68, Try.ntmps68
    go_wp2_with fail
    go_ret3
    exact ⟨none, 0, 0, rfl, ⟨rfl, fun i s hs => by simp at hs⟩, bel_alloc (Below.refl _ _) _⟩
  · have HT := Lib.hid hT
    have HR := Lib.hid hR
    clear hT hR hl
    go_enter Try.func68, Try.ntmps68
    go_wp2_with fail
    have hT1 := Bk.new w 38 #[rv0, rv1, rv2, rv3, rv4, rv5, rv6]
    have hb1 := bel_alloc (Below.refl _ w) (.cells #[rv0, rv1, rv2, rv3, rv4, rv5, rv6] 38)
    generalize World.alloc w _ = W1 at hT1 hb1 ⊢
    have HB1 := Lib.hid hb1
    clear hb1
    go_loopw [7, 8] (fun s7 s8 wr => ∃ (j : Nat) (XS : List Value), j ≤ ts.length ∧ s8 = .int .i64 j ∧ (∀ x ∈ ts.take j, clsE d x = 0) ∧ AllI W1 d ts j s7 XS wr) (fun _ i _ => ts.length - (intOf i).toNat)
    case atStart => exact ⟨0, [], Nat.zero_le _, rfl, fun x hx => by simp at hx, rfl, World.ownsRow_nil _ _ _ _, fun q x t hx => by simp at hx, Below.refl _ _⟩
    case round =>
      obtain ⟨j, XS, hj, rfl, hz, hA⟩ := hrel
      have HZ := Lib.hid hz
      have HA := Lib.hid hA
      clear hz
      by_cases hlt : j < ts.length
      · obtain ⟨t, ht⟩ : ∃ t, ts[j]? = some t := ⟨_, List.getElem?_eq_getElem hlt⟩
        obtain ⟨b, o, v0, v1, v2, v3, v4, v5, v6, rfl, hty, p0, p1, p2, p3, p4, p5, p6⟩ := (HT.out.below (bel_then HB1.out hA.bel)).at_ ht
        have HX := Lib.hid (rclasses_f hty)
        have HTT := Lib.hid ht
        go_wp2_with fail
        refine HX.out.mono ?_
        rintro e w3 ⟨C, cn, cc, rfl, hC, hb3, hfr⟩
        have HC := Lib.hid hC
        have HFR := Lib.hid hfr
        have HB3 := Lib.hid hb3
        clear hb3 hC hfr p0 p1 p2 p3 p4 p5 p6
        obtain ⟨ce, hce⟩ : ∃ x, clsE d t = x := ⟨_, rfl⟩
        rw [hce]
        have HCE := Lib.hid hce
        clear hce
        by_cases hc : ce = 0
        · subst hc
          obtain ⟨hl1, hl2⟩ := cls_len HCE.out
          obtain ⟨f0, hf0⟩ : ∃ f0, (clsL d t)[0]? = some f0 := ⟨_, List.getElem?_eq_getElem (by omega)⟩
          obtain ⟨cb, co, rfl, x0⟩ := HC.out.2 0 f0 hf0
          obtain rfl : cn = (clsL d t).length := HC.out.1
          have hcb := World.block_lt_of_cell? _ _ x0
          have hcf := HFR.out _ rfl
          simp only at hcb hcf
          have hne : u7.ownBlock ≠ some cb := fun e => by
            rcases HA.out.row.2 with ⟨h1, _⟩ | ⟨g', cap, cur, h1, _, hh, _⟩
            · rw [h1] at e; simp [Value.ownBlock] at e
            · rw [h1] at e
              have : g' = cb := by simpa [Value.ownBlock] using e
              subst this
              have := (Array.getElem?_eq_some_iff.1 hh).1
              omega
          have HA3 := Lib.hid (HA.out.below HB3.out)
          have hrow := HA3.out.row
          have hbs := HA3.out.bel.size
          obtain ⟨i0, hi0, hz0', hz1', hz2'⟩ := info_parts info39
          clear hf0 x0
          obtain ⟨l, hll⟩ : ∃ l, clsL d t = l := ⟨_, rfl⟩
          rw [hll] at HC hl1 hl2 ⊢
          have HLL := Lib.hid hll
          clear hll
          go_wp2_with (at_builtin; refine wpList_append_own_at _ rfl (.tmp 43) (.tmp 45) 144 rfl W1.heap.size 39 i0 _ 1 24 Try.underlying144 hi0 hz0' hz1' hz2' rfl (by decide) _ _ _ rfl (hrow.alloc _) ⟨w3.heap.size, 0, none⟩ 1 1 [.slice (some ⟨cb, co, none⟩) l.length cc] rfl rfl (new_cells _ _ _) (by simp [Value.oneCell']) (by unfold maxLen; omega) (by omega) (by rw [World.size_alloc]; omega) ?_; intro v' w7 hown' hgrow _ hat; have HO := Lib.hid hown'; have HG := Lib.hid hgrow; have HAT := Lib.hid hat; clear hown' hgrow hat)
          go_roundw
          case rel =>
            have h := HA3.out.app (c := cc) HTT.out (by rw [HLL.out]; exact HC.out) hne hcb (by rw [HLL.out]; exact HO.out) HG.out HAT.out
            exact ⟨j + 1, _, by omega, by go_num, take_z HTT.out HCE.out HZ.out, h⟩
          case measure => simp [intOf]; omega
        · have hn : (ce != 0) = true := by simpa using hc
          obtain rfl : pE = ce := by
            rw [← HE.out, ← HCE.out]
            unfold passE
            rw [if_neg h16, firstE_at (by rw [HCE.out]; exact hc) HTT.out HZ.out, if_pos (by rw [HCE.out]; exact hc)]
          obtain rfl : pL = [] := HPL.out.symm.trans (passL_0 HE.out hc).1
          obtain rfl : pN = 0 := HPN.out.symm.trans (passL_0 HE.out hc).2
          go_wp2_with fail
          go_ret3
          exact ⟨none, 0, 0, rfl, ⟨rfl, fun i s hs => by simp at hs⟩, bel_then (bel_then HB1.out HA.out.bel) HB3.out⟩
      · obtain rfl : j = ts.length := by omega
        have HZA := Lib.hid (show ∀ x ∈ ts, clsE d x = 0 by have := HZ.out; rwa [List.take_length] at this)
        replace hT1 := hT1.below hA.bel hT1.lt
        have HBW := Lib.hid (bel_then HB1.out hA.bel)
        clear hA HZ
        have t0 := hT1.at_ (i := 0) rfl; have t1 := hT1.at_ (i := 1) rfl; have t2 := hT1.at_ (i := 2) rfl; have t3 := hT1.at_ (i := 3) rfl; have t4 := hT1.at_ (i := 4) rfl; have t5 := hT1.at_ (i := 5) rfl; have t6 := hT1.at_ (i := 6) rfl
        go_wp2_with fail
        refine (rsame_c _ _ rt emptyT rv0 rv1 rv2 rv3 rv4 rv5 rv6 _ _ _ _ _ _ _ wr (HR.out.below HBW.out) (emptyT_at _)).mono ?_
        rintro e W3 ⟨rfl, hb3⟩
        have HB3 := Lib.hid hb3
        replace hT1 := hT1.below hb3 hT1.lt
        clear hb3 t0 t1 t2 t3 t4 t5 t6
        have t0 := hT1.at_ (i := 0) rfl; have t1 := hT1.at_ (i := 1) rfl; have t2 := hT1.at_ (i := 2) rfl; have t3 := hT1.at_ (i := 3) rfl; have t4 := hT1.at_ (i := 4) rfl; have t5 := hT1.at_ (i := 5) rfl; have t6 := hT1.at_ (i := 6) rfl
        have HF0 := Lib.hid (firstE_0 HZA.out)
        obtain ⟨nr, hnr⟩ : ∃ x, sameS d' 1 rt emptyT = x := ⟨_, rfl⟩
        rw [hnr]
        have HNR := Lib.hid (show noneR d' rt = nr from hnr)
        clear hnr
        go_upto_if 51 with (fail)
        go_cut [11, 12] from 52 (fun s11 s12 wc => pE = 0 ∧ s12 = .int .i64 (start0 d' rt).r ∧ RPo wr s11 (start0 d' rt).l wc)
        case first =>
          cases nr with
          | true =>
            go_wp2_with fail
            go_meet
            case rel =>
              have : start0 d' rt = ⟨[], 0, 0⟩ := by unfold start0; rw [if_neg (by rw [HNR.out]; simp)]
              rw [this]
              refine ⟨?_, rfl, World.ownsRow_nil _ _ _ _, HB3.out⟩
              rw [← HE.out]
              unfold passE
              rw [if_neg h16, HF0.out, if_neg (by decide), if_pos HNR.out]
          | false =>
            have HX := Lib.hid (rclasses_c (HR.out.below (bel_then HBW.out HB3.out)))
            go_wp2_with fail
            refine HX.out.mono ?_
            rintro e W4 ⟨C, cn, cc, rfl, hC, hb4⟩
            have HB4 := Lib.hid (bel_then HB3.out hb4)
            have HC := Lib.hid hC
            clear hb4 hC t0 t1 t2 t3 t4 t5 t6
            obtain ⟨ce, hce⟩ : ∃ x, clsE d' rt = x := ⟨_, rfl⟩
            rw [hce]
            have HCE := Lib.hid hce
            clear hce
            obtain rfl : pE = ce := by
              rw [← HE.out, ← HCE.out]
              unfold passE
              rw [if_neg h16, HF0.out, if_neg (by decide), if_neg (by rw [HNR.out]; decide)]
            by_cases hc : pE = 0
            · subst hc
              obtain ⟨hl1, hl2⟩ := cls_len HCE.out
              obtain ⟨f0, hf0⟩ : ∃ f0, (clsL d' rt)[0]? = some f0 := ⟨_, List.getElem?_eq_getElem (by omega)⟩
              obtain ⟨cb, co, rfl, x0⟩ := HC.out.2 0 f0 hf0
              have hcn : cn = (clsL d' rt).length := HC.out.1
              have hn1 : 1 ≤ cn := by omega
              simp only [Nat.add_zero] at x0
              have HF := Lib.hid hf0
              clear hf0 hcn
              have hR0 : RPo wr (.slice none 0 0) [] W4 := ⟨World.ownsRow_nil _ _ _ _, HB4.out⟩
              by_cases h2 : f0 = 2
              · subst h2
                have HR0 := Lib.hid hR0
                have hrow : W4.ownsRow wr.heap.size 87 4 (.slice none 0 0) 0 [] := hR0.row
                have hwl := HB4.out.size
                clear hR0
                obtain ⟨i0, hi0, hz0', hz1', hz2'⟩ := info_parts info87
                go_wp2_with (at_builtin; refine wpList_append_own _ rfl (.tmp 64) (.tmp 66) 81 rfl wr.heap.size 87 i0 _ 4 32 Try.underlying81 hi0 hz0' hz1' hz2' rfl (by decide) (.slice none 0 0) 0 [] rfl (hrow.alloc _) ⟨W4.heap.size, 0, none⟩ 1 1 [.int .i64 (-1), .int .i64 0, .int .i64 0, .int .i64 0] rfl rfl (new_cells _ _ _) (by simp [Value.oneCell']) (by unfold maxLen; omega) (by omega) (by rw [World.size_alloc]; omega) ?_; intro v' w7 hown' hgrow _; have HOWN := Lib.hid hown'; have HGR := Lib.hid hgrow; clear hown' hgrow)
                go_meet
                case rel =>
                  have : start0 d' rt = ⟨[⟨-1, 0, 0, 0⟩], 1, 0⟩ := by unfold start0; rw [if_pos ⟨HNR.out, HF.out⟩]
                  rw [this]
                  exact ⟨by first | trivial | rfl, rfl, HR0.out.app (x := ⟨-1, 0, 0, 0⟩) HOWN.out HGR.out⟩
              · have hf2 : (f0 == 2) = false := by simpa using h2
                have HR0 := Lib.hid hR0
                clear hR0
                go_wp2_with fail
                go_meet
                case rel =>
                  have : start0 d' rt = ⟨[], 0, 0⟩ := by unfold start0; rw [if_neg (by rw [HF.out]; simp [h2])]
                  rw [this]
                  exact ⟨by first | trivial | rfl, rfl, HR0.out⟩
            · have hn : (pE != 0) = true := by simpa using hc
              obtain rfl : pL = [] := HPL.out.symm.trans (passL_0 HE.out hc).1
              obtain rfl : pN = 0 := HPN.out.symm.trans (passL_0 HE.out hc).2
              go_wp2_with fail
              go_ret3
              exact ⟨none, 0, 0, rfl, ⟨rfl, fun i s hs => by simp at hs⟩, bel_then HBW.out HB4.out⟩
        case rest =>
          obtain ⟨rfl, rfl, hR0⟩ := hcut
          have hy1 := HPL.out.symm.trans (passL_1 HE.out).1
          have hy2 := HPN.out.symm.trans (passL_1 HE.out).2
          clear t0 t1 t2 t3 t4 t5 t6 hT1
          obtain ⟨st, hst⟩ : ∃ st, start0 d' rt = st := ⟨_, rfl⟩
          rw [hst] at hR0 hy1 hy2 ⊢
          have HY1 := Lib.hid hy1
          have HY2 := Lib.hid hy2
          clear hy1 hy2
          have hst0 : 0 ≤ st.r ∧ st.r ≤ 1 ∧ st.top = 0 ∧ st.l.length ≤ 1 := by
            rw [← hst]
            unfold start0
            split <;> simp
          clear hst
          have HRUN := Lib.hid (runP_ok st HZA.out (by omega) (by omega) (by omega))
          have HR0 := Lib.hid hR0
          clear hR0
          obtain ⟨wo, rfl⟩ : ∃ wo : World, wo = wr := ⟨_, rfl⟩
          go_wp2_with fail
          go_loopw [11, 12, 16, 17] (fun s11 s12 s16 s17 wx => ∃ j : Nat, j ≤ ts.length ∧ s17 = .int .i64 j ∧ s12 = .int .i64 (runP d st ts j).r ∧ s16 = .int .i64 (runP d st ts j).top ∧ RPo wo s11 (runP d st ts j).l wx) (fun _ _ _ i _ => ts.length - (intOf i).toNat)
          case atStart => exact ⟨0, Nat.zero_le _, rfl, rfl, by rw [show (runP d st ts 0).top = 0 from hst0.2.2.1], HR0.out⟩
          case round =>
            obtain ⟨j, hj, rfl, rfl, rfl, hRP⟩ := hrel
            obtain ⟨v11, hv11⟩ : ∃ v, u11 = v := ⟨_, rfl⟩
            rw [hv11] at hRP ⊢
            clear hv11
            by_cases hlt : j < ts.length
            · obtain ⟨t, ht⟩ : ∃ t, ts[j]? = some t := ⟨_, List.getElem?_eq_getElem hlt⟩
              have HTT := Lib.hid ht
              have HN := Lib.hid (runP_next (s := st) ht)
              have hce : clsE d t = 0 := HZA.out t (List.mem_of_getElem? ht)
              obtain ⟨z0, z1, z2, z3, z4⟩ := HRUN.out j
              obtain ⟨L, hL⟩ : ∃ L, (runP d st ts j).l = L := ⟨_, rfl⟩
              obtain ⟨T, hTT⟩ : ∃ L, (runP d st ts j).top = L := ⟨_, rfl⟩
              obtain ⟨R, hRR⟩ : ∃ L, (runP d st ts j).r = L := ⟨_, rfl⟩
              rw [hL] at hRP z4
              rw [hTT] at z2 z3 ⊢
              rw [hRR] at z0 z1 ⊢
              replace HN := Lib.hid (show runP d st ts (j + 1) = stepP d ⟨L, R, T⟩ j t by rw [HN.out, ← hL, ← hTT, ← hRR])
              have z5 : L.length ≤ 1000000 := by omega
              have z6 : T ≤ 100000000 := by omega
              clear hL hTT hRR z3 z4
              obtain ⟨x, hx⟩ : ∃ x, XS[j]? = some x := ⟨_, List.getElem?_eq_getElem (by have := HA.out.len; omega)⟩
              obtain ⟨cb, co, cc, rfl, hC, -, -⟩ := HA.out.cls j x t hx ht
              have hrw := HA.out.row
              obtain ⟨g, cap, hsl⟩ : ∃ g cap, u7 = .slice (some ⟨g, 0, none⟩) ts.length cap := by
                rcases hrw.2 with ⟨_, h0⟩ | ⟨g, cap, _, rfl, _⟩
                · omega
                · exact ⟨g, cap, rfl⟩
              have x0 := hrw.cells (g := g) (by rw [hsl]; rfl) j _ hx
              rw [add_off _ rfl, Nat.zero_add] at x0
              replace x0 := bel_cell hRP.bel x0
              rw [hsl]
              have HC := Lib.hid (hC.below hRP.bel)
              have HC0 := Lib.hid hC
              clear hC hx hrw hsl ht
              have HRP := Lib.hid hRP
              clear hRP
              obtain ⟨hl1, hl2⟩ := cls_len hce
              have HCE := Lib.hid hce
              obtain ⟨l, hll⟩ : ∃ l, clsL d t = l := ⟨_, rfl⟩
              rw [hll] at HC HC0 hl1 hl2 x0
              have HLL := Lib.hid hll
              obtain ⟨f0, hf0⟩ : ∃ f0, l[0]? = some f0 := ⟨_, List.getElem?_eq_getElem (by omega)⟩
              obtain ⟨_, _, he, y0⟩ := HC.out.2 0 f0 hf0
              cases he
              simp only [Nat.add_zero] at y0
              have HF := Lib.hid hf0
              clear hf0 hll hce
              obtain ⟨wz, rfl⟩ : ∃ wz : World, wz = wr := ⟨_, rfl⟩
              go_upto_region 26 with (fail)
              clear x0
              go_cut [88] from 78 to 88 (fun s88 wx => s88 = .bool (fitsS R l) ∧ RPo wo v11 L wx ∧ Below wz.heap.size wz wx)
              case first =>
                by_cases h2 : f0 = 2
                · subst h2
                  have HFT := Lib.hid (show fitsS R l = false by unfold fitsS; rw [HF.out]; rfl)
                  go_wp2_with fail
                  go_meet
                  case rel => exact ⟨by rw [HFT.out], HRP.out, Below.refl _ _⟩
                · have hf2 : (f0 != 2) = true := by simpa using h2
                  have HFT := Lib.hid (show fitsS R l = decide ((ones l : Int) ≤ 6 - R) by unfold fitsS; rw [HF.out]; simp [h2])
                  have hol := ones_le l
                  have HI := Lib.hid (rints_c _ _ cc l wz HC.out (by omega))
                  go_wp2_with fail
                  refine HI.out.mono ?_
                  rintro e w5 ⟨rfl, hb5⟩
                  have HB5 := Lib.hid hb5
                  clear hb5 y0
                  go_wp2_with fail
                  go_meet
                  case rel => exact ⟨by rw [HFT.out], HRP.out.below HB5.out, HB5.out⟩
              case rest =>
                obtain ⟨rfl, hRP, hbz⟩ := hcut
                have HRP := Lib.hid hRP
                clear hRP hbz y0
                cases hft : fitsS R l with
                | true =>
                  have HFT := Lib.hid hft
                  clear hft
                  go_wp2_with fail
                  go_loopw [11, 12, 19] (fun s11 s12 s19 wx => ∃ k : Nat, k ≤ l.length ∧ s19 = .int .i64 k ∧ s12 = .int .i64 (R + ((evN R l k).length : Int)) ∧ RPo wo s11 (L ++ regL j R (evN R l k)) wx ) (fun _ _ k _ => l.length - (intOf k).toNat)
                  case atStart =>
                    refine ⟨0, Nat.zero_le _, rfl, by simp [evN], ?_⟩
                    have h0 : L ++ regL j R (evN R l 0) = L := by simp [evN, regL]
                    rw [h0]
                    exact HRP.out
                  case round =>
                    obtain ⟨k, hk, rfl, rfl, hRP2⟩ := hrel
                    have hel := ev_len R l k hk
                    have hel2 := ones_le (l.take k)
                    rw [List.length_take] at hel2
                    by_cases hkl : k < l.length
                    · obtain ⟨f, hf⟩ : ∃ f, l[k]? = some f := ⟨_, List.getElem?_eq_getElem hkl⟩
                      obtain ⟨_, _, he, y1⟩ := (HC0.out.below hRP2.bel).2 k f hf
                      cases he
                      obtain ⟨E, hE⟩ : ∃ E, (evN R l k).length = E := ⟨_, rfl⟩
                      rw [hE] at hel
                      have HE2 := Lib.hid hE
                      by_cases h1 : f = 1
                      · subst h1
                        obtain ⟨g1, g2⟩ := reg_next (i := j) (r := R) hf
                        rw [hE] at g1 g2
                        have HG1 := Lib.hid g1
                        have HG2 := Lib.hid g2
                        obtain ⟨P, hP⟩ : ∃ P, L ++ regL j R (evN R l k) = P := ⟨_, rfl⟩
                        rw [hP] at hRP2
                        have hPl : P.length ≤ 1000002 := by
                          rw [← hP, List.length_append]
                          unfold regL
                          rw [List.length_mapIdx, hE]
                          omega
                        have HP := Lib.hid hP
                        have hrow := hRP2.row
                        have hbs := hRP2.bel.size
                        have HR2 := Lib.hid hRP2
                        obtain ⟨i0, hi0, hz0', hz1', hz2'⟩ := info_parts info87
                        rw [hE]
                        obtain ⟨RE, hRE⟩ : ∃ RE, R + (E : Int) = RE := ⟨_, rfl⟩
                        rw [hRE]
                        have HRE := Lib.hid hRE
                        have q1 : 0 ≤ RE ∧ RE ≤ 8 := by omega
                        clear hRP2 hP g1 g2 hE hRE hel hel2 hf
                        go_wp2_with (at_builtin; refine wpList_append_own _ rfl (.tmp 100) (.tmp 105) 81 rfl wo.heap.size 87 i0 _ 4 32 Try.underlying81 hi0 hz0' hz1' hz2' rfl (by decide) _ P.length (plwC P) rfl (hrow.alloc _) ⟨wr.heap.size, 0, none⟩ 1 1 [.int .i64 j, .int .i64 k, .int .i64 RE, .int .i64 0] rfl rfl (new_cells _ _ _) (by simp [Value.oneCell']) (by unfold maxLen; omega) (by omega) (by rw [World.size_alloc]; omega) ?_; intro v' w7 hown' hgrow _; have HOWN := Lib.hid hown'; have HGR := Lib.hid hgrow; clear hown' hgrow)
                        go_roundw
                        case rel =>
                          have hA := HR2.out.app (x := ⟨j, k, RE, 0⟩) HOWN.out HGR.out
                          refine ⟨k + 1, by omega, by go_num, ?_, ?_⟩
                          · rw [HG2.out, ← HRE.out]
                            go_num
                          · rw [HG1.out, ← List.append_assoc, HP.out, HRE.out]
                            exact hA
                        case measure => simp [intOf]; omega
                      · have hd : (f == 1) = false := by simpa using h1
                        have HNO := Lib.hid (evN_no (r := R) hf h1)
                        have HR2 := Lib.hid hRP2
                        clear hRP2 hf
                        go_wp2_with fail
                        go_roundw
                        case rel => exact ⟨k + 1, by omega, by go_num, by rw [HNO.out], by rw [HNO.out]; exact HR2.out⟩
                        case measure => simp [intOf]; omega
                    · obtain rfl : k = l.length := by omega
                      have HR2 := Lib.hid hRP2
                      clear hRP2
                      go_wp2_with fail
                      go_roundw
                      case rel =>
                        refine ⟨j + 1, by omega, by go_num, ?_, ?_, ?_⟩
                        · rw [HN.out]
                          unfold stepP ovR
                          simp only [HLL.out]
                          rw [if_pos HFT.out]
                        · rw [HN.out]
                          unfold stepP ovT
                          simp only [HLL.out]
                          rw [if_pos HFT.out]
                        · rw [HN.out]
                          unfold stepP ovL
                          simp only [HLL.out]
                          rw [if_pos HFT.out]
                          exact HR2.out
                      case measure => simp [intOf]; omega
                | false =>
                  have HFT := Lib.hid hft
                  clear hft
                  obtain ⟨b, o, v0, v1, v2, v3, v4, v5, v6, rfl, hty, p0, p1, p2, p3, p4, p5, p6⟩ := (HT.out.below (bel_then HBW.out HRP.out.bel)).at_ HTT.out
                  obtain ⟨ze, hsz1, hsz2⟩ := Clsz HCE.out
                  have hag := agS_rng HCE.out
                  have HX := rOf_c hty
                  unfold OfP at HX
                  obtain ⟨sz, hsz⟩ : ∃ x, szS d t = x := ⟨_, rfl⟩
                  obtain ⟨ag, hagg⟩ : ∃ x, agS d t = x := ⟨_, rfl⟩
                  obtain ⟨er, her⟩ : ∃ x, errS d t = x := ⟨_, rfl⟩
                  rw [hsz] at hsz1 hsz2 HX
                  rw [hagg] at hag HX
                  rw [her] at HX
                  replace HX := Lib.hid HX
                  have HSZ := Lib.hid hsz
                  have HAG := Lib.hid hagg
                  clear hsz hagg her ze hty
                  go_wp2_with fail
                  refine HX.out.mono ?_
                  rintro e w5 ⟨B, bn, bc, rfl, hb5, -, -⟩
                  clear p0 p1 p2 p3 p4 p5 p6
                  have hRP5 := HRP.out.below hb5
                  have g20 := Bk.new w5 58 #[.int .i64 sz, .int .i64 ag, .bool false, .slice B bn bc]
                  have hb6 := bel_alloc (Below.refl _ w5) (.cells #[.int .i64 sz, .int .i64 ag, .bool false, .slice B bn bc] 58)
                  have hRP6 := hRP5.below hb6
                  obtain ⟨mg, hmg⟩ : ∃ x, mx 8 ag = x := ⟨_, rfl⟩
                  have ym : 8 ≤ mg ∧ mg ≤ 64 := by rw [← hmg, mx_eq]; omega
                  have HMG := Lib.hid hmg
                  obtain ⟨G, hG⟩ : ∃ G, w5.heap.size = G := ⟨_, rfl⟩
                  rw [hG] at g20
                  have hu1 := upS_b (v := T) (n := mg) z2 (by omega)
                  have hu2 := upS_b (v := sz) (n := 8) (by omega) (by omega)
                  have HU2 := Lib.hid (show upS sz 8 = 8 * (upS sz 8 / 8) by unfold upS; omega)
                  go_upto_region 34 with (fail)
                  generalize World.alloc w5 _ = W6 at g20 hRP6 hb6 ⊢
                  have k1 := g20.at_ (i := 1) rfl
                  have HRP6 := Lib.hid hRP6
                  clear hRP5 hRP6 hb5 hb6
                  obtain ⟨TU, hTU⟩ : ∃ x, upS T mg = x := ⟨_, rfl⟩
                  rw [hTU] at hu1
                  have HTU := Lib.hid hTU
                  obtain ⟨us, hus⟩ : ∃ x, upS sz 8 = x := ⟨_, rfl⟩
                  rw [hus] at hu2 HU2
                  have HUS := Lib.hid hus
                  obtain ⟨m, hm⟩ : ∃ m : Nat, us / 8 = (m : Int) := ⟨(us / 8).toNat, by omega⟩
                  have hm2 : m ≤ 8193 := by omega
                  have HM := Lib.hid hm
                  have HC104 := Lib.hid (crup_c T mg W6 z2 (by omega) (by omega) (by omega))
                  rw [hTU] at HC104
                  have HC105 := Lib.hid (fun w' => crup_c sz 8 w' (by omega) (by omega) (by omega) (by omega))
                  rw [hus] at HC105
                  clear hTU hus
                  go_wp2_with fail
                  refine HC104.out.mono ?_
                  rintro e _ ⟨rfl, rfl⟩
                  clear k1 HC104
                  go_wp2_with fail
                  go_loopw [11, 22] (fun s11 s22 wx => ∃ k : Nat, k ≤ m ∧ s22 = .int .i64 k ∧ RPo wo s11 (L ++ (List.range k).map fun (q : Nat) => (⟨j, q, -1, TU + 8 * q⟩ : Plw)) wx ∧ Bk wx G 58 #[.int .i64 sz, .int .i64 ag, .bool false, .slice B bn bc]) (fun _ k _ => m - (intOf k).toNat)
                  case atStart => exact ⟨0, Nat.zero_le _, rfl, by simpa using HRP6.out, g20⟩
                  case round =>
                    clear g20
                    obtain ⟨k, hk, rfl, hRP2, g20⟩ := hrel
                    obtain ⟨wy, rfl⟩ : ∃ wy : World, wy = wr := ⟨_, rfl⟩
                    have k0 := g20.at_ (i := 0) rfl
                    obtain ⟨P, hP⟩ : ∃ P, L ++ (List.range k).map (fun (q : Nat) => (⟨j, q, -1, TU + 8 * q⟩ : Plw)) = P := ⟨_, rfl⟩
                    rw [hP] at hRP2
                    have hPl : P.length ≤ 1010000 := by rw [← hP, List.length_append, List.length_map, List.length_range]; omega
                    have HP := Lib.hid hP
                    have hrow := hRP2.row
                    have hbs := hRP2.bel.size
                    have HR2 := Lib.hid hRP2
                    have HG20 := Lib.hid g20
                    clear hRP2 hP g20
                    go_wp2_with fail
                    refine (HC105.out _).mono ?_
                    rintro e _ ⟨rfl, rfl⟩
                    by_cases hkm : k < m
                    · obtain ⟨i0, hi0, hz0', hz1', hz2'⟩ := info_parts info87
                      obtain ⟨TK, hTK⟩ : ∃ x, TU + 8 * (k : Int) = x := ⟨_, rfl⟩
                      have HTK := Lib.hid hTK
                      clear k0
                      go_wp2_with (at_builtin; refine wpList_append_own _ rfl (.tmp 130) (.tmp 138) 81 rfl wo.heap.size 87 i0 _ 4 32 Try.underlying81 hi0 hz0' hz1' hz2' rfl (by decide) _ P.length (plwC P) rfl (hrow.alloc _) ⟨wy.heap.size, 0, none⟩ 1 1 [.int .i64 j, .int .i64 k, .int .i64 (-1), .int .i64 TK] rfl rfl (new_cells _ _ _) (by simp [Value.oneCell']) (by unfold maxLen; omega) (by omega) (by rw [World.size_alloc]; omega) ?_; intro v' w7 hown' hgrow _; have HOWN := Lib.hid hown'; have HGR := Lib.hid hgrow; clear hown' hgrow)
                      go_roundw
                      case rel =>
                        have hA := HR2.out.app (x := ⟨j, k, -1, TK⟩) HOWN.out HGR.out
                        refine ⟨k + 1, by omega, by go_num, ?_, (HG20.out.alloc _).grown HGR.out (HG20.out.ne_row87 (by decide) HR2.out.row)⟩
                        rw [List.range_succ, List.map_append, ← List.append_assoc, HP.out]
                        simp only [List.map_cons, List.map_nil]
                        rw [HTK.out]
                        exact hA
                      case measure => simp [intOf]; omega
                    · obtain rfl : k = m := by omega
                      go_wp2_with fail
                      refine (HC105.out _).mono ?_
                      rintro e _ ⟨rfl, rfl⟩
                      go_wp2_with fail
                      go_roundw
                      case rel =>
                        have hmn : (us / 8).toNat = k := by omega
                        refine ⟨j + 1, by omega, by go_num, ?_, ?_, ?_⟩
                        · rw [HN.out]
                          unfold stepP ovR
                          simp only [HLL.out]
                          rw [if_neg (by rw [HFT.out]; decide)]
                        · rw [HN.out]
                          unfold stepP ovT
                          simp only [HLL.out, HSZ.out, HAG.out, HMG.out, HTU.out, HUS.out, hmn]
                          rw [if_neg (by rw [HFT.out]; decide), HU2.out, HM.out]
                        · rw [HN.out]
                          unfold stepP ovL
                          simp only [HLL.out, HSZ.out, HAG.out, HMG.out, HTU.out, HUS.out, hmn]
                          rw [if_neg (by rw [HFT.out]; decide), HP.out]
                          exact HR2.out
                      case measure => simp [intOf]; omega
            · obtain rfl : j = ts.length := by omega
              obtain ⟨z0, z1, z2, z3, z4⟩ := HRUN.out ts.length
              obtain ⟨L, hL⟩ : ∃ L, (runP d st ts ts.length).l = L := ⟨_, rfl⟩
              obtain ⟨T, hTT⟩ : ∃ L, (runP d st ts ts.length).top = L := ⟨_, rfl⟩
              rw [hL] at hRP
              obtain rfl : pL = L := HY1.out.trans hL
              rw [hTT] at z2 z3
              obtain rfl : pN = upS T 16 := by rw [HY2.out, hTT]
              rw [hTT]
              have HRP := Lib.hid hRP
              clear hL hTT z0 z1 z4 hRP HY1 HY2
              go_wp2_with fail
              refine (crup_c T 16 wr z2 (by omega) (by omega) (by omega)).mono ?_
              rintro e _ ⟨rfl, rfl⟩
              obtain ⟨B, c', rfl⟩ : ∃ B c', v11 = .slice B pL.length c' := by
                rcases HRP.out.row.2 with ⟨h1, h2⟩ | ⟨g, cap, _, h1, _⟩
                · exact ⟨none, 0, by rw [h2]; exact h1⟩
                · exact ⟨_, _, h1⟩
              go_wp2_with fail
              go_ret3
              exact ⟨B, _, c', rfl, plws_of_row HRP.out.row rfl, bel_then HBW.out HRP.out.bel⟩
end Go.Proofs.Ytcggghamnmflcaa
