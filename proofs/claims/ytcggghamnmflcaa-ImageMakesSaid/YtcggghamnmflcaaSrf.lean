/- The walk of the reference's members: how a right struct or union lies. -/
import Derived.Test.YtcggghamnmflcaaGb
import Derived.Test.YtcggghamnmflcaaFlp
namespace Go.Proofs.Ytcggghamnmflcaa
open Go Go.RowKit Go.Shelf
attribute [local go_sem] mx2_int mx_two
/-- What box is to answer of right types. -/
def BoxP (d : Nat) (t : Tp d) (w : World) (e : Ending) (w' : World) : Prop :=
  ∃ (sz ag : Int) (big : Bool) (A : Option Addr) (n c : Nat), e = .returned (.agg #[.int .i64 sz, .int .i64 ag, .bool big, .slice A n c]) ∧ Below w.heap.size w w' ∧
    ((boxS d t = none ∧ big = true) ∨ (∃ b, boxS d t = some b ∧ big = false ∧ sz = b.size ∧ ag = b.align ∧ Spts w.heap.size w' A n b.l))
def BoxC (d : Nat) : Prop := ∀ (t : Tp d) (deep : Int) (v0 v1 v2 v3 v4 v5 v6 : Value) (w : World), plainS d t deep = true → TyAt w d t [v0, v1, v2, v3, v4, v5, v6] → Calls Try.prog 84 #[.agg #[v0, v1, v2, v3, v4, v5, v6]] w (BoxP d t w)
/-- What members' own cells hold between two rounds. -/
structure MemM (w0 : World) (t0 : Array Value) (ag : Int) (n : Nat) (L : List Value) (S : Value) (W : World) : Prop where
  o : Bk W (w0.heap.size + 1 + 1) 58 #[.int .i64 0, .int .i64 ag, .bool false, S]
  r : W.ownsRow (w0.heap.size + 1 + 1 + 1) 48 3 S n L
  t : Bk W w0.heap.size 38 t0
  re : Bk W (w0.heap.size + 1) 58 #[.int .i64 0, .int .i64 0, .bool false, .slice none 0 0]
  bel : Below w0.heap.size w0 W
section
variable {w0 : World} {t0 : Array Value} {ag : Int} {n : Nat} {L : List Value} {S : Value} {W W1 : World}
theorem MemM.below_ (h : MemM w0 t0 ag n L S W) (hb : Below W.heap.size W W1) : MemM w0 t0 ag n L S W1 :=
  ⟨h.o.below hb h.o.lt, h.r.kept (grown_none hb) (by cases S.ownBlock <;> simp), h.t.below hb h.t.lt, h.re.below hb h.re.lt, bel_then h.bel hb⟩
theorem MemM.alloc_ (h : MemM w0 t0 ag n L S W) (o : Obj) : MemM w0 t0 ag n L S (W.alloc o) := h.below_ (bel_alloc (Below.refl _ _) _)
theorem MemM.setG (h : MemM w0 t0 ag n L S W) (v : Int) : MemM w0 t0 v n L S (W.setCell ⟨w0.heap.size + 1 + 1, 1, none⟩ (.int .i64 v)) :=
  ⟨h.o.set_ 1 _, h.r.kept (grown_set W _ 1 _) (.inr (own_ne h.r (by omega))), h.t.far (by simp only; omega) _, h.re.far (by simp only; omega) _, h.bel.setCell (by simp; omega) _⟩
theorem MemM.app (h : MemM w0 t0 ag n L S W) {S' : Value} {n' : Nat} {L' : List Value} (hr : W1.ownsRow (w0.heap.size + 1 + 1 + 1) 48 3 S' n' L') (hg : W.grownBy W1 S.ownBlock) :
    MemM w0 t0 ag n' L' S' (W1.setCell ⟨w0.heap.size + 1 + 1, 3, none⟩ S') := by
  have q : ∀ g, g < w0.heap.size + 1 + 1 + 1 → some g ≠ S.ownBlock := fun g hg => own_ne' h.r hg
  have b2 : ∀ k, S.ownBlock = some k → w0.heap.size ≤ k := fun k hk => by
    rcases Nat.lt_or_ge k (w0.heap.size + 1 + 1 + 1) with h1 | h1
    · exact absurd hk.symm (q k h1)
    · omega
  exact ⟨(h.o.grown hg (q _ (by omega))).set_ 3 _, hr.kept (grown_set W1 _ 3 _) (.inr (own_ne hr (by omega))), (h.t.grown hg (q _ (by omega))).far (by simp only; omega) _, (h.re.grown hg (q _ (by omega))).far (by simp only; omega) _, (h.bel.grown hg h.bel.size b2).setCell (by simp; omega) _⟩
end
theorem Bk.ne_row {W : World} {g : Nat} {t : TypeId} {cs : Array Value} (h : Bk W g t cs) (ht : t ≠ 48) {base n : Nat} {S : Value} {L : List Value} (hr : W.ownsRow base 48 3 S n L) : some g ≠ S.ownBlock := fun e => by
  rcases hr.2 with ⟨rfl, _⟩ | ⟨g', cap, cur, rfl, _, hh, _⟩
  · simp [Value.ownBlock] at e
  · have : g = g' := by simpa [Value.ownBlock] using e
    subst this
    have h' : W.heap[g]? = some (.cells cs t (0, 0)) := h
    rw [h'] at hh
    simp at hh
    exact ht hh.2
/-- A prefix of members laid. -/
def layP (d : Nat) (un pk : Bool) (al : Int) (l : List (Fld (Tp d))) (m : Nat) : Option Lay := (l.take m).foldlM (layF d un pk) (lay0 al)
theorem layP_snoc {d : Nat} {un pk : Bool} {al : Int} {l : List (Fld (Tp d))} {m : Nat} {f : Fld (Tp d)} {s : Lay} {b : Bx} (hf : l[m]? = some f) (hs : layP d un pk al l m = some s) (hb : boxS d f.t = some b) : layP d un pk al l (m + 1) = some (layS un pk f.nm (tk d f.t) f.bits b s) := by
  unfold layP at *
  rw [take_snoc_of hf, List.foldlM_append, hs]
  unfold layF
  simp [hb]
theorem layP_none {d : Nat} {un pk : Bool} {al : Int} {l : List (Fld (Tp d))} {m : Nat} {f : Fld (Tp d)} (hf : l[m]? = some f) (hb : boxS d f.t = none) : l.foldlM (layF d un pk) (lay0 al) = none :=
  fold_none (fun s f b => layS un pk f.nm (tk d f.t) f.bits b s) l _ ⟨f, List.mem_of_getElem? hf, hb⟩
theorem foldF_len {d : Nat} {un pk : Bool} : ∀ (l : List (Fld (Tp d))) (s s' : Lay), l.foldlM (layF d un pk) s = some s' → s'.l.length = s.l.length + l.length
  | [], s, s', h => by cases h; rfl
  | f :: l, s, s', h => by
    rw [List.foldlM_cons] at h
    cases hb : boxS d f.t with
    | none => unfold layF at h; rw [hb] at h; cases h
    | some b =>
      have e : layF d un pk s f = some (layS un pk f.nm (tk d f.t) f.bits b s) := by unfold layF; rw [hb]; rfl
      rw [e] at h
      have := foldF_len l _ s' h
      rw [this]
      unfold layS
      simp
      omega
theorem layP_len {d : Nat} {un pk : Bool} {al : Int} {l : List (Fld (Tp d))} {m : Nat} {f : Fld (Tp d)} {s : Lay} (hf : l[m]? = some f) (hs : layP d un pk al l m = some s) : s.l.length = m := by
  have := foldF_len _ _ _ hs
  have hl := (List.getElem?_eq_some_iff.1 hf).1
  rw [this, List.length_take, Nat.min_eq_left (by omega)]
  simp [lay0]
theorem layP_rng {d : Nat} {un pk : Bool} {al : Int} {l : List (Fld (Tp d))} {m : Nat} {s : Lay} {deep : Int} (ha : isAlignS al = true) (hall : (l.all fun f => fldB d f deep) = true) (hm : m ≤ l.length) (hs : layP d un pk al l m = some s) : LayR m s := by
  have := (foldF_rng (deep := deep) (boxS_ok d) (l.take m) (lay0 al) s 0 (lay0_rng ha) (by
    rw [List.all_eq_true] at hall ⊢
    exact fun f hf => hall f (List.mem_of_mem_take hf)) hs).1
  rw [List.length_take, Nat.min_eq_left hm, Nat.zero_add] at this
  exact this
theorem cells58 : Try.prog.cellsOf 58 = 4 := by kernel_rfl
theorem results113 {tmps : Array Value} {W : World} {g : Nat} {a b c e : Value} (h4 : tmps.getD 2 undef = .pointer (some ⟨g, 0, none⟩)) (h : Bk W g 58 #[a, b, c, e]) : (results Try.f113 tmps).run Try.prog W = .ok (.agg #[a, b, c, e]) W := by
  have c0 : W.cell? ⟨g, 0, none⟩ = some a := h.at_ (i := 0) rfl
  have c1 : W.cell? ⟨g, 1, none⟩ = some b := h.at_ (i := 1) rfl
  have c2 : W.cell? ⟨g, 2, none⟩ = some c := h.at_ (i := 2) rfl
  have c3 : W.cell? ⟨g, 3, none⟩ = some e := h.at_ (i := 3) rfl
  rw [Array.getD_eq_getD_getElem?] at h4
  simp [results, Try.results113, go_sem, h4, c0, c1, c2, c3]

/-- What members answers. -/
def MemP {d : Nat} (un pk : Bool) (al : Int) (l : List (Fld (Tp d))) (w : World) (e : Ending) (w' : World) : Prop :=
  ∃ (sz ag : Int) (big : Bool) (A : Option Addr) (n c : Nat), e = .returned (.agg #[.int .i64 sz, .int .i64 ag, .bool big, .slice A n c]) ∧ Below w.heap.size w w' ∧
      ((l.foldlM (layF d un pk) (lay0 al) = none ∧ big = true) ∨ (∃ s, l.foldlM (layF d un pk) (lay0 al) = some s ∧ sz = closeS s ∧ ag = s.align ∧ big = decide (65536 < closeS s) ∧ Spts w.heap.size w' A n s.l))
/-- What members' slots hold between two rounds. -/
def MemI {d : Nat} (un pk : Bool) (al : Int) (l : List (Fld (Tp d))) (w0 : World) (t0 : Array Value) (s4 s5 s6 : Value) (W : World) : Prop :=
  ∃ (m : Nat) (s : Lay) (S : Value), m ≤ l.length ∧ s4 = .int .i64 s.at_ ∧ s5 = .int .i64 s.end_ ∧ s6 = .int .i64 m ∧ layP d un pk al l m = some s ∧ MemM w0 t0 s.align s.l.length (sptC s.l) S W
theorem lay_is {un pk cb : Bool} {nm : ByteArray} {k bits sz ag at0 bit wd : Int} {xl : List Spt} {s : Lay} (h1 : (if un then 0 else s.at_ : Int) = at0) (h2 : nextS pk bits sz ag at0 = bit) (h3 : (if bits < 0 then 8 * sz else bits) = wd) (h4 : (!pk && !nm.toList.isEmpty) = cb) :
    layS un pk nm k bits ⟨sz, ag, xl⟩ s = { at_ := bit + wd, end_ := mx s.end_ (bit + wd), align := if cb = true then mx s.align ag else s.align, l := s.l ++ [⟨bit, wd, k⟩] } := by
  unfold layS
  dsimp only
  rw [h1, h2, h3, h4, mx_eq, mx_eq]
theorem results_at {fn : Func} {k : Tmp} (hr : fn.results = #[.cell k 58]) {tmps : Array Value} {W : World} {g : Nat} {a b c e : Value} (h4 : tmps.getD k undef = .pointer (some ⟨g, 0, none⟩)) (h : Bk W g 58 #[a, b, c, e]) : (results fn tmps).run Try.prog W = .ok (.agg #[a, b, c, e]) W := by
  have c0 : W.cell? ⟨g, 0, none⟩ = some a := h.at_ (i := 0) rfl
  have c1 : W.cell? ⟨g, 1, none⟩ = some b := h.at_ (i := 1) rfl
  have c2 : W.cell? ⟨g, 2, none⟩ = some c := h.at_ (i := 2) rfl
  have c3 : W.cell? ⟨g, 3, none⟩ = some e := h.at_ (i := 3) rfl
  rw [Array.getD_eq_getD_getElem?] at h4
  simp [results, hr, go_sem, h4, c0, c1, c2, c3]
set_option maxRecDepth 100000 in
set_option maxHeartbeats 8000000 in
theorem members_w {d : Nat} (hBC : BoxC d) (A1 A2 : Option Addr) (sh al : Int) (c1 c2 : Nat) (pk : Bool) (l : List (Fld (Tp d))) (deep : Int) (w : World) (_hc : l.length ≤ c2) (_hm : c2 ≤ 9223372036854775807) (hF : FdsAt w d A2 l) (ha : isAlignS al = true) (hf : fieldsS d l deep = true) :
    Calls Try.prog 113 #[.agg #[.int .i64 sh, .int .i64 0, .int .i64 0, .slice A1 0 c1, .slice A2 l.length c2, .bool pk, .int .i64 al]] w (MemP (sh == 5) pk al l w) := by
  have hall : (l.all fun f => fldB d f deep) = true := by unfold fieldsS at hf; simp only [Bool.and_eq_true] at hf; exact hf.2
  have hlen : l.length ≤ 40 := by unfold fieldsS namedS at hf; simp only [Bool.and_eq_true, decide_eq_true_eq, List.length_map] at hf; exact hf.1.2
  have HALL := Lib.hid hall
  have HAL := Lib.hid ha
  have HFS := Lib.hid hf
  clear hall ha hf
  obtain ⟨un, hun⟩ : ∃ x, (sh == 5) = x := ⟨_, rfl⟩
  rw [hun]
  go_enter Try.func113, Try.ntmps113
  go_upto_region 2 with (fail)
  have hag := lay0_rng HAL.out
  obtain ⟨-, -, -, -, ha1, ha2⟩ := hag
  have hM0 : MemM w #[.int .i64 sh, .int .i64 0, .int .i64 0, .slice A1 0 c1, .slice A2 l.length c2, .bool pk, .int .i64 al] (mx 1 al) 0 [] (.slice none 0 0) (((w.alloc (.cells #[.int .i64 sh, .int .i64 0, .int .i64 0, .slice A1 0 c1, .slice A2 l.length c2, .bool pk, .int .i64 al] 38)).alloc (.cells #[.int .i64 0, .int .i64 0, .bool false, .slice none 0 0] 58)).alloc (.cells #[.int .i64 0, .int .i64 (mx 1 al), .bool false, .slice none 0 0] 58)) :=
    ⟨Bk.new2 w _ _ _ _, World.ownsRow_nil _ _ _ _, ((Bk.new w _ _).alloc _).alloc _, (Bk.new1 w _ _ _).alloc _, bel_alloc (bel_alloc (bel_alloc (Below.refl _ _) _) _) _⟩
  generalize World.alloc _ _ = W0 at hM0 ⊢
  go_wp2_with fail
  have HM0 := Lib.hid hM0
  clear hM0
  go_loopw [4, 5, 6] (fun s4 s5 s6 wr => MemI un pk al l w #[.int .i64 sh, .int .i64 0, .int .i64 0, .slice A1 0 c1, .slice A2 l.length c2, .bool pk, .int .i64 al] s4 s5 s6 wr) (fun _ _ i _ => l.length - (intOf i).toNat)
  case atStart => exact ⟨0, lay0 al, .slice none 0 0, Nat.zero_le _, rfl, rfl, rfl, rfl, HM0.out⟩
  case round =>
    clear HM0
    obtain ⟨m, s, S, hml, rfl, rfl, rfl, hlay, hM⟩ := hrel
    have hR := layP_rng HAL.out HALL.out hml hlay
    obtain ⟨g1, g2, g3, g4, g5, g6⟩ := hR
    have HLAY := Lib.hid hlay
    clear hlay
    have hMlt := hM.o.lt
    have qt4 := hM.t.at_ (i := 4) rfl
    by_cases hlt : m < l.length
    · obtain ⟨f, hf⟩ : ∃ f, l[m]? = some f := ⟨_, List.getElem?_eq_getElem hlt⟩
      obtain ⟨b, o, nn, a1, a2, m1, m2, d1, d2, fpk, fal, hA, hbt, hnm, hty, q0, q1, q2, q3, q4, q5, q6, q7, q8⟩ := (hF.below hM.bel).at_ hf
      subst hA
      have HF := Lib.hid hf
      clear hf
      have HTY := Lib.hid hty
      clear hty
      go_upto_region 8 with (fail)
      have hMa := hM.alloc_ (.cells #[.string f.nm, .int .i64 (tsh d f.t), .int .i64 (tk d f.t), .int .i64 nn, .slice a1 m1 d1, .slice a2 m2 d2, .bool fpk, .int .i64 fal, .int .i64 f.bits] 56)
      have hFb : Bk (wr.alloc (.cells #[.string f.nm, .int .i64 (tsh d f.t), .int .i64 (tk d f.t), .int .i64 nn, .slice a1 m1 d1, .slice a2 m2 d2, .bool fpk, .int .i64 fal, .int .i64 f.bits] 56)) wr.heap.size 56 #[.string f.nm, .int .i64 (tsh d f.t), .int .i64 (tk d f.t), .int .i64 nn, .slice a1 m1 d1, .slice a2 m2 d2, .bool fpk, .int .i64 fal, .int .i64 f.bits] := Bk.new wr _ _
      have HTA := Lib.hid (HTY.out.below (bel_alloc (Below.refl _ wr) (.cells #[.string f.nm, .int .i64 (tsh d f.t), .int .i64 (tk d f.t), .int .i64 nn, .slice a1 m1 d1, .slice a2 m2 d2, .bool fpk, .int .i64 fal, .int .i64 f.bits] 56)))
      have hFlt : w.heap.size + 1 + 1 < wr.heap.size := hMlt
      generalize World.alloc wr _ = Wa at hMa hFb HTA ⊢
      clear q0 q1 q2 q3 q4 q5 q6 q7 q8 qt4 HTY
      have p1 := hFb.at_ (i := 1) rfl
      have p2 := hFb.at_ (i := 2) rfl
      have p3 := hFb.at_ (i := 3) rfl
      have p4 := hFb.at_ (i := 4) rfl
      have p5 := hFb.at_ (i := 5) rfl
      have p6 := hFb.at_ (i := 6) rfl
      have p7 := hFb.at_ (i := 7) rfl
      have hpl : plainS d f.t deep = true := by have := List.all_eq_true.1 HALL.out f (List.mem_of_getElem? HF.out); unfold fldB at this; simp only [Bool.and_eq_true] at this; exact this.1
      have hfb : fldB d f deep = true := List.all_eq_true.1 HALL.out f (List.mem_of_getElem? HF.out)
      have HPL := Lib.hid hpl
      have HFB := Lib.hid hfb
      clear hpl hfb
      go_upto_region 9 with (go_at_call 84; refine (hBC f.t deep _ _ _ _ _ _ _ _ HPL.out HTA.out).mono ?_; rintro e w1 ⟨sz, ag, big, xA, xn, xc, rfl, hb1, hx⟩; have HB1 := Lib.hid hb1; have HX := Lib.hid hx; clear hb1 hx)
      have hM1 := (hMa.below_ HB1.out).alloc_ (.cells #[.int .i64 sz, .int .i64 ag, .bool big, .slice xA xn xc] 58)
      have hF1 := (hFb.below HB1.out hFb.lt).alloc (.cells #[.int .i64 sz, .int .i64 ag, .bool big, .slice xA xn xc] 58)
      have hX1 : Bk (w1.alloc (.cells #[.int .i64 sz, .int .i64 ag, .bool big, .slice xA xn xc] 58)) w1.heap.size 58 #[.int .i64 sz, .int .i64 ag, .bool big, .slice xA xn xc] := Bk.new w1 _ _
      have hXlt : wr.heap.size < w1.heap.size := Nat.lt_of_lt_of_le hFb.lt HB1.out.size
      generalize World.alloc w1 _ = W1 at hM1 hF1 hX1 ⊢
      clear p1 p2 p3 p4 p5 p6 p7 hMa hFb
      have x2 := hX1.at_ (i := 2) rfl
      have o0 := hM1.o.at_ (i := 0) rfl
      have o1 := hM1.o.at_ (i := 1) rfl
      have o3 := hM1.o.at_ (i := 3) rfl
      have fo2 := hM1.o.frozen 2
      have e0 := hM1.re.at_ (i := 0) rfl
      have e1 := hM1.re.at_ (i := 1) rfl
      have e2 := hM1.re.at_ (i := 2) rfl
      have e3 := hM1.re.at_ (i := 3) rfl
      have fe0 := hM1.re.frozen 0
      have fe1 := hM1.re.frozen 1
      have fe2 := hM1.re.frozen 2
      have fe3 := hM1.re.frozen 3
      cases hbx : boxS d f.t with
      | none =>
        have hbig : big = true := by
          rcases HX.out with ⟨_, h⟩ | ⟨b', h, _⟩
          · exact h
          · rw [hbx] at h; cases h
        subst hbig
        have HN := Lib.hid (layP_none (un := un) (pk := pk) (al := al) HF.out hbx)
        have o2' := hM1.o.at_ (i := 2) rfl
        obtain ⟨SA, SC, rfl, -⟩ := spts_of_row hM1.r
        clear hbx
        go_wp2_with fail
        refine bodyPost_ret (results_at (a := .int .i64 0) (b := .int .i64 s.align) (c := .bool true) (e := .slice SA s.l.length SC) rfl rfl ((((hM1.re.far (by simp only; omega) _).set_ 0 _).set_ 1 _).set_ 2 _ |>.set_ 3 _)) rfl ?_
        exact ⟨0, s.align, true, SA, s.l.length, SC, rfl, bel_set (bel_set (bel_set (bel_set (bel_set hM1.bel (by simp only; omega) _) (by simp only; omega) _) (by simp only; omega) _) (by simp only; omega) _) (by simp only; omega) _, .inl ⟨HN.out, rfl⟩⟩
      | some bx =>
        have hk := boxS_ok d f.t deep bx HPL.out hbx
        obtain ⟨k1, k2, k3, k4⟩ := hk
        have k5 := bits_ok HFB.out hbx ⟨k1, k2, k3, k4⟩
        have hsame : big = false ∧ sz = bx.size ∧ ag = bx.align := by
          rcases HX.out with ⟨h, _⟩ | ⟨b', h, h1, h2, h3, _⟩
          · rw [hbx] at h; cases h
          · rw [hbx] at h; cases h; exact ⟨h1, h2, h3⟩
        obtain ⟨rfl, rfl, rfl⟩ := hsame
        have HBX := Lib.hid hbx
        clear hbx HX
        obtain ⟨xsz, xag, xl⟩ := bx
        dsimp only at k1 k2 k3 k4 k5 hX1
        have tt0 := hM1.t.at_ (i := 0) rfl
        go_upto_if 35 with (fail)
        have HUN := Lib.hid hun
        go_cut [4] from 14 to 81 (fun s4 wx => s4 = .int .i64 (if un then 0 else s.at_) ∧ wx = W1)
        case first =>
          cases un with
          | true =>
            go_wp2_with fail
            go_meet
            case rel => exact ⟨rfl, rfl⟩
          | false =>
            go_wp2_with fail
            go_meet
            case rel => exact ⟨rfl, rfl⟩
        case rest =>
          obtain ⟨rfl, rfl⟩ := hcut
          clear o0 o1 o3 fo2 e0 e1 e2 e3 fe0 fe1 fe2 fe3 x2 tt0 hun
          have hat : (0 : Int) ≤ (if un then 0 else s.at_) ∧ (if un then 0 else s.at_) ≤ (m : Int) * 1048576 := by split <;> omega
          obtain ⟨at0, hat0⟩ : ∃ x, (if un then 0 else s.at_ : Int) = x := ⟨_, rfl⟩
          rw [hat0] at hat ⊢
          have HAT := Lib.hid hat0
          clear hat0
          obtain ⟨ha0, ha9⟩ := hat
          have hbr := nextS_rng pk f.bits xsz xag at0 k1 k3 k4
          obtain ⟨bit, hbit⟩ : ∃ v, nextS pk f.bits xsz xag at0 = v := ⟨_, rfl⟩
          rw [hbit] at hbr
          have HBIT := Lib.hid hbit
          have hbr2 : 0 ≤ bit ∧ bit ≤ 100000000 := by split at hbr <;> omega
          obtain ⟨hb0, hb9⟩ := hbr2
          clear hbr
          have LQ : ∀ X (s' : BelS X), Calls Try.prog 124 #[.agg #[.int .i64 sh, .int .i64 0, .int .i64 0, .slice A1 0 c1, .slice (some ⟨b, o, none⟩) l.length c2, .bool pk, .int .i64 al], .agg #[.string f.nm, .int .i64 (tsh d f.t), .int .i64 (tk d f.t), .int .i64 nn, .slice a1 m1 d1, .slice a2 m2 d2, .bool fpk, .int .i64 fal, .int .i64 f.bits], .agg #[.int .i64 xsz, .int .i64 xag, .bool false, .slice xA xn xc], .int .i64 at0] s'.w fun e w'' => e = .returned (.int .i64 bit) ∧ ∃ s'' : BelS X, w'' = s''.w := fun X s' => by
            have := next_c sh 0 0 al A1 (some ⟨b, o, none⟩) 0 c1 l.length c2 pk f.nm (tsh d f.t) (tk d f.t) nn fal f.bits a1 a2 m1 m2 d1 d2 fpk xsz xag false xA xn xc at0 s'.w ha0 (by omega) k1 k2 k3 k4 k5
            rw [hbit] at this
            exact this.mono fun e w'' ⟨he, hb⟩ => ⟨he, ⟨w'', bel_then s'.h hb⟩, rfl⟩
          clear hbit
          go_upto_region 14 with (fail)
          refine region_flo 12 (.cells #[.int .i64 0, .int .i64 0, .int .i64 0] 48) (by kernel_rfl) (by kernel_rfl) rfl rfl (by kernel_rfl) (fun _ => rfl) ?hal ?ex
          case hal => intro a w; go_simp
          apply Exists.intro
          apply And.intro
          · intro X hX
            have hMX := hM1.below_ hX
            have hXX := hX1.below hX hX1.lt
            have hFX := hF1.below hX hF1.lt
            have Gt0 := fun s => BelS.cell (hMX.t.at_ (i := 0) rfl) s
            have Gt1 := fun s => BelS.cell (hMX.t.at_ (i := 1) rfl) s
            have Gt2 := fun s => BelS.cell (hMX.t.at_ (i := 2) rfl) s
            have Gt3 := fun s => BelS.cell (hMX.t.at_ (i := 3) rfl) s
            have Gt4 := fun s => BelS.cell (hMX.t.at_ (i := 4) rfl) s
            have Gt5 := fun s => BelS.cell (hMX.t.at_ (i := 5) rfl) s
            have Gt6 := fun s => BelS.cell (hMX.t.at_ (i := 6) rfl) s
            have Gf0 := fun s => BelS.cell (hFX.at_ (i := 0) rfl) s
            have Gf1 := fun s => BelS.cell (hFX.at_ (i := 1) rfl) s
            have Gf2 := fun s => BelS.cell (hFX.at_ (i := 2) rfl) s
            have Gf3 := fun s => BelS.cell (hFX.at_ (i := 3) rfl) s
            have Gf4 := fun s => BelS.cell (hFX.at_ (i := 4) rfl) s
            have Gf5 := fun s => BelS.cell (hFX.at_ (i := 5) rfl) s
            have Gf6 := fun s => BelS.cell (hFX.at_ (i := 6) rfl) s
            have Gf7 := fun s => BelS.cell (hFX.at_ (i := 7) rfl) s
            have Gf8 := fun s => BelS.cell (hFX.at_ (i := 8) rfl) s
            have Gx0 := fun s => BelS.cell (hXX.at_ (i := 0) rfl) s
            have Gx1 := fun s => BelS.cell (hXX.at_ (i := 1) rfl) s
            have Gx2 := fun s => BelS.cell (hXX.at_ (i := 2) rfl) s
            have Gx3 := fun s => BelS.cell (hXX.at_ (i := 3) rfl) s
            simp only [List.take_succ_cons, List.take_zero]
            repeat (go_big_quiet_step ((go_at_call 124; exact LQ X _)))
            exact wpQuiet_nil rfl
          · intro u w2 hb2 hu hz2
            simp only [List.drop_succ_cons, List.drop_zero]
            have hs2 : Bk w2 u 48 #[.int .i64 0, .int .i64 0, .int .i64 0] := hz2
            have pf8 := (hF1.below hb2 hF1.lt).at_ (i := 8) rfl
            have rs0 := hs2.frozen 0
            have rs1 := hs2.frozen 1
            have rs2 := hs2.frozen 2
            have ps0 := hs2.at_ (i := 0) rfl
            have ps1 := hs2.at_ (i := 1) rfl
            have ps2 := hs2.at_ (i := 2) rfl
            have hwu : wr.heap.size < u := Nat.lt_of_lt_of_le hF1.lt hu
            have hxu : w1.heap.size < u := Nat.lt_of_lt_of_le hX1.lt hu
            go_upto_if 50 with (fail)
            have hb3 : Below wc.heap.size wc (((w2.setCell ⟨u, 0, none⟩ (.int .i64 bit)).setCell ⟨u, 1, none⟩ (.int .i64 (8 * xsz))).setCell ⟨u, 2, none⟩ (.int .i64 (tk d f.t))) := ((hb2.setCell (p := ⟨u, 0, none⟩) hu _).setCell (p := ⟨u, 1, none⟩) hu _).setCell (p := ⟨u, 2, none⟩) hu _
            have hs3 : Bk (((w2.setCell ⟨u, 0, none⟩ (.int .i64 bit)).setCell ⟨u, 1, none⟩ (.int .i64 (8 * xsz))).setCell ⟨u, 2, none⟩ (.int .i64 (tk d f.t))) u 48 #[.int .i64 bit, .int .i64 (8 * xsz), .int .i64 (tk d f.t)] := ((hs2.set_ 0 _).set_ 1 _).set_ 2 _
            generalize World.setCell _ _ _ = W3 at hb3 hs3 ⊢
            clear pf8 rs0 rs1 rs2 ps0 ps1 ps2 hs2 hz2 hb2 LQ
            have HB3 := Lib.hid hb3
            have HS3 := Lib.hid hs3
            have qs1 := hs3.at_ (i := 1) rfl
            have rs1 := hs3.frozen 1
            have qf8 := (hF1.below hb3 hF1.lt).at_ (i := 8) rfl
            clear hb3 hs3
            go_cut [] from 14 to 81 (fun wx => Below wc.heap.size wc wx ∧ Bk wx u 48 #[.int .i64 bit, .int .i64 (if f.bits < 0 then 8 * xsz else f.bits), .int .i64 (tk d f.t)])
            case first =>
              by_cases hb : f.bits < 0
              · go_wp2_with fail
                go_meet
                case rel => exact ⟨HB3.out, by rw [if_pos hb]; exact HS3.out⟩
              · go_wp2_with fail
                go_meet
                case rel => exact ⟨HB3.out.setCell (p := ⟨u, 1, none⟩) hu _, by rw [if_neg (by omega)]; exact HS3.out.set_ 1 _⟩
            case rest =>
              clear HB3 HS3 qs1 rs1 qf8
              obtain ⟨hb4, hs4⟩ := hcut
              have hwd0 : 0 ≤ (if f.bits < 0 then 8 * xsz else f.bits) ∧ (if f.bits < 0 then 8 * xsz else f.bits) ≤ 524288 := by split <;> omega
              obtain ⟨wd, hwd⟩ : ∃ v, (if f.bits < 0 then 8 * xsz else f.bits) = v := ⟨_, rfl⟩
              rw [hwd] at hs4 hwd0
              have HWD := Lib.hid hwd
              clear hwd
              obtain ⟨hwd1, hwd2⟩ := hwd0
              have hM4 := hM1.below_ hb4
              have hF4 := hF1.below hb4 hF1.lt
              have hX4 := hX1.below hb4 hX1.lt
              clear hM1 hF1 hX1 hb4
              have qs0 := hs4.at_ (i := 0) rfl
              have qs1 := hs4.at_ (i := 1) rfl
              have qs2 := hs4.at_ (i := 2) rfl
              have qo3 := hM4.o.at_ (i := 3) rfl
              obtain ⟨i0, hi0, hz0', hz1', hz2'⟩ := info_parts info48
              have HSL := Lib.hid (show s.l.length = m from layP_len HF.out HLAY.out)
              have hL40 : s.l.length < 40 := by rw [HSL.out]; omega
              have hb6 := hM4.o.lt
              go_upto_region 19 with (fail)
              cases pk with
              | true =>
                have HCB := Lib.hid (show (!true && !f.nm.toList.isEmpty) = false by rfl)
                go_wp2_with (at_builtin; refine wpList_append_own _ rfl (.tmp 63) (.tmp 65) 42 rfl (w.heap.size + 1 + 1 + 1) 48 i0 _ 3 24 Try.underlying42 hi0 hz0' hz1' hz2' rfl (by decide) _ _ _ rfl (hM4.r.alloc _) ⟨wc.heap.size, 0, none⟩ 1 1 [.int .i64 bit, .int .i64 wd, .int .i64 (tk d f.t)] rfl rfl (new_cells _ _ _) (by simp [Value.oneCell']) (by unfold maxLen; omega) (by omega) (by rw [World.size_alloc]; omega) ?_; intro v' w7 hown' hgrow _; obtain ⟨g', cap', rfl⟩ := ownsRow_succ hown'; have HOWN := Lib.hid hown'; have HGR := Lib.hid hgrow; have qo3 := (((hM4.alloc_ (.cells #[.int .i64 bit, .int .i64 wd, .int .i64 (tk d f.t)] 48)).o.grown hgrow (own_ne' hM4.r (by omega))).at_ (i := 3) rfl); have ro3 := (((hM4.alloc_ (.cells #[.int .i64 bit, .int .i64 wd, .int .i64 (tk d f.t)] 48)).o.grown hgrow (own_ne' hM4.r (by omega))).frozen 3); have qo1 := (((hM4.alloc_ (.cells #[.int .i64 bit, .int .i64 wd, .int .i64 (tk d f.t)] 48)).o.grown hgrow (own_ne' hM4.r (by omega))).at_ (i := 1) rfl); have ro1 := (((hM4.alloc_ (.cells #[.int .i64 bit, .int .i64 wd, .int .i64 (tk d f.t)] 48)).o.grown hgrow (own_ne' hM4.r (by omega))).frozen 1); have qt5 := (((hM4.alloc_ (.cells #[.int .i64 bit, .int .i64 wd, .int .i64 (tk d f.t)] 48)).t.grown hgrow (own_ne' hM4.r (by omega))).at_ (i := 5) rfl); have qf0 := (((hF4.alloc (.cells #[.int .i64 bit, .int .i64 wd, .int .i64 (tk d f.t)] 48)).grown hgrow (Bk.ne_row (hF4.alloc (.cells #[.int .i64 bit, .int .i64 wd, .int .i64 (tk d f.t)] 48)) (by decide) (hM4.r.alloc _))).at_ (i := 0) rfl); have qx1 := (((hX4.alloc (.cells #[.int .i64 bit, .int .i64 wd, .int .i64 (tk d f.t)] 48)).grown hgrow (Bk.ne_row (hX4.alloc (.cells #[.int .i64 bit, .int .i64 wd, .int .i64 (tk d f.t)] 48)) (by decide) (hM4.r.alloc _))).at_ (i := 1) rfl); clear hown' hgrow)
                go_roundw
                case rel =>
                  have hM7 := ((hM4.alloc_ (.cells #[.int .i64 bit, .int .i64 wd, .int .i64 (tk d f.t)] 48)).app HOWN.out HGR.out)
                  rw [← sptC_snoc s.l ⟨bit, wd, tk d f.t⟩] at hM7
                  have hs' := layP_snoc (un := un) (pk := true) (al := al) HF.out HLAY.out HBX.out
                  rw [lay_is HAT.out HBIT.out HWD.out HCB.out] at hs'
                  exact ⟨m + 1, _, _, by omega, rfl, rfl, by go_num, hs', by simpa using hM7⟩
                case measure => simp [intOf]; omega
              | false =>
                cases he : f.nm.toList.isEmpty with
                | true =>
                  have HCB := Lib.hid (show (!false && !f.nm.toList.isEmpty) = false by rw [he]; rfl)
                  go_wp2_with (at_builtin; refine wpList_append_own _ rfl (.tmp 63) (.tmp 65) 42 rfl (w.heap.size + 1 + 1 + 1) 48 i0 _ 3 24 Try.underlying42 hi0 hz0' hz1' hz2' rfl (by decide) _ _ _ rfl (hM4.r.alloc _) ⟨wc.heap.size, 0, none⟩ 1 1 [.int .i64 bit, .int .i64 wd, .int .i64 (tk d f.t)] rfl rfl (new_cells _ _ _) (by simp [Value.oneCell']) (by unfold maxLen; omega) (by omega) (by rw [World.size_alloc]; omega) ?_; intro v' w7 hown' hgrow _; obtain ⟨g', cap', rfl⟩ := ownsRow_succ hown'; have HOWN := Lib.hid hown'; have HGR := Lib.hid hgrow; have qo3 := (((hM4.alloc_ (.cells #[.int .i64 bit, .int .i64 wd, .int .i64 (tk d f.t)] 48)).o.grown hgrow (own_ne' hM4.r (by omega))).at_ (i := 3) rfl); have ro3 := (((hM4.alloc_ (.cells #[.int .i64 bit, .int .i64 wd, .int .i64 (tk d f.t)] 48)).o.grown hgrow (own_ne' hM4.r (by omega))).frozen 3); have qo1 := (((hM4.alloc_ (.cells #[.int .i64 bit, .int .i64 wd, .int .i64 (tk d f.t)] 48)).o.grown hgrow (own_ne' hM4.r (by omega))).at_ (i := 1) rfl); have ro1 := (((hM4.alloc_ (.cells #[.int .i64 bit, .int .i64 wd, .int .i64 (tk d f.t)] 48)).o.grown hgrow (own_ne' hM4.r (by omega))).frozen 1); have qt5 := (((hM4.alloc_ (.cells #[.int .i64 bit, .int .i64 wd, .int .i64 (tk d f.t)] 48)).t.grown hgrow (own_ne' hM4.r (by omega))).at_ (i := 5) rfl); have qf0 := (((hF4.alloc (.cells #[.int .i64 bit, .int .i64 wd, .int .i64 (tk d f.t)] 48)).grown hgrow (Bk.ne_row (hF4.alloc (.cells #[.int .i64 bit, .int .i64 wd, .int .i64 (tk d f.t)] 48)) (by decide) (hM4.r.alloc _))).at_ (i := 0) rfl); have qx1 := (((hX4.alloc (.cells #[.int .i64 bit, .int .i64 wd, .int .i64 (tk d f.t)] 48)).grown hgrow (Bk.ne_row (hX4.alloc (.cells #[.int .i64 bit, .int .i64 wd, .int .i64 (tk d f.t)] 48)) (by decide) (hM4.r.alloc _))).at_ (i := 1) rfl); clear hown' hgrow)
                  go_roundw
                  case rel =>
                    have hM7 := ((hM4.alloc_ (.cells #[.int .i64 bit, .int .i64 wd, .int .i64 (tk d f.t)] 48)).app HOWN.out HGR.out)
                    rw [← sptC_snoc s.l ⟨bit, wd, tk d f.t⟩] at hM7
                    have hs' := layP_snoc (un := un) (pk := false) (al := al) HF.out HLAY.out HBX.out
                    rw [lay_is HAT.out HBIT.out HWD.out HCB.out] at hs'
                    exact ⟨m + 1, _, _, by omega, rfl, rfl, by go_num, hs', by simpa using hM7⟩
                  case measure => simp [intOf]; omega
                | false =>
                  have HCB := Lib.hid (show (!false && !f.nm.toList.isEmpty) = true by rw [he]; rfl)
                  go_wp2_with (at_builtin; refine wpList_append_own _ rfl (.tmp 63) (.tmp 65) 42 rfl (w.heap.size + 1 + 1 + 1) 48 i0 _ 3 24 Try.underlying42 hi0 hz0' hz1' hz2' rfl (by decide) _ _ _ rfl (hM4.r.alloc _) ⟨wc.heap.size, 0, none⟩ 1 1 [.int .i64 bit, .int .i64 wd, .int .i64 (tk d f.t)] rfl rfl (new_cells _ _ _) (by simp [Value.oneCell']) (by unfold maxLen; omega) (by omega) (by rw [World.size_alloc]; omega) ?_; intro v' w7 hown' hgrow _; obtain ⟨g', cap', rfl⟩ := ownsRow_succ hown'; have HOWN := Lib.hid hown'; have HGR := Lib.hid hgrow; have qo3 := (((hM4.alloc_ (.cells #[.int .i64 bit, .int .i64 wd, .int .i64 (tk d f.t)] 48)).o.grown hgrow (own_ne' hM4.r (by omega))).at_ (i := 3) rfl); have ro3 := (((hM4.alloc_ (.cells #[.int .i64 bit, .int .i64 wd, .int .i64 (tk d f.t)] 48)).o.grown hgrow (own_ne' hM4.r (by omega))).frozen 3); have qo1 := (((hM4.alloc_ (.cells #[.int .i64 bit, .int .i64 wd, .int .i64 (tk d f.t)] 48)).o.grown hgrow (own_ne' hM4.r (by omega))).at_ (i := 1) rfl); have ro1 := (((hM4.alloc_ (.cells #[.int .i64 bit, .int .i64 wd, .int .i64 (tk d f.t)] 48)).o.grown hgrow (own_ne' hM4.r (by omega))).frozen 1); have qt5 := (((hM4.alloc_ (.cells #[.int .i64 bit, .int .i64 wd, .int .i64 (tk d f.t)] 48)).t.grown hgrow (own_ne' hM4.r (by omega))).at_ (i := 5) rfl); have qf0 := (((hF4.alloc (.cells #[.int .i64 bit, .int .i64 wd, .int .i64 (tk d f.t)] 48)).grown hgrow (Bk.ne_row (hF4.alloc (.cells #[.int .i64 bit, .int .i64 wd, .int .i64 (tk d f.t)] 48)) (by decide) (hM4.r.alloc _))).at_ (i := 0) rfl); have qx1 := (((hX4.alloc (.cells #[.int .i64 bit, .int .i64 wd, .int .i64 (tk d f.t)] 48)).grown hgrow (Bk.ne_row (hX4.alloc (.cells #[.int .i64 bit, .int .i64 wd, .int .i64 (tk d f.t)] 48)) (by decide) (hM4.r.alloc _))).at_ (i := 1) rfl); clear hown' hgrow)
                  go_roundw
                  case rel =>
                    have hM7 := ((hM4.alloc_ (.cells #[.int .i64 bit, .int .i64 wd, .int .i64 (tk d f.t)] 48)).app HOWN.out HGR.out).setG (mx s.align xag)
                    rw [← sptC_snoc s.l ⟨bit, wd, tk d f.t⟩] at hM7
                    have hs' := layP_snoc (un := un) (pk := false) (al := al) HF.out HLAY.out HBX.out
                    rw [lay_is HAT.out HBIT.out HWD.out HCB.out] at hs'
                    exact ⟨m + 1, _, _, by omega, rfl, rfl, by go_num, hs', by simpa using hM7⟩
                  case measure => simp [intOf]; omega
    · have hml2 : m = l.length := by omega
      have HS := Lib.hid (show l.foldlM (layF d un pk) (lay0 al) = some s by have := HLAY.out; unfold layP at this; rwa [hml2, List.take_length] at this)
      have hr8 := upS_rng (v := s.end_) (show (1 : Int) ≤ 8 by omega)
      have hcl := upS_rng (v := upS s.end_ 8 / 8) (show (1 : Int) ≤ s.align by omega)
      have h80 : 0 ≤ upS s.end_ 8 ∧ upS s.end_ 8 ≤ 100000000 := by omega
      obtain ⟨h801, h802⟩ := h80
      have HCL := Lib.hid (show closeS s = upS (upS s.end_ 8 / 8) s.align from rfl)
      have LQ8 : ∀ (v n : Int), 0 ≤ v → v ≤ 1000000000000 → 1 ≤ n → n ≤ 1000000000000 → ∀ s' : BelS wr, Calls Try.prog 125 #[.int .i64 v, .int .i64 n] s'.w fun e w'' => e = .returned (.int .i64 (upS v n)) ∧ ∃ s'' : BelS wr, w'' = s''.w := fun v n a1 a2 a3 a4 s' => (rup_c v n s'.w a1 a2 a3 a4).mono fun e w'' ⟨he, hb⟩ => ⟨he, s', hb.symm⟩
      clear hml2 hcl hr8
      go_upto_region 22 with (fail)
      have Gg := fun s' => BelS.cell (hM.o.at_ (i := 1) rfl) s'
      refine region_tail (C := fun w' => ∃ s' : BelS wr, w' = s'.w) 7 (by kernel_rfl) (by kernel_rfl) ⟨⟨_, bel_drew (Below.refl _ _)⟩, rfl⟩ ?_
      simp only [List.take_succ_cons, List.take_zero, List.drop_succ_cons, List.drop_zero]
      repeat (go_big_quiet_step ((go_at_call 125; exact LQ8 _ _ (by omega) (by omega) (by omega) (by omega) _)))
      refine wpQuiet_nil ?_
      rintro _ ⟨⟨w2, hb2⟩, rfl⟩
      clear LQ8 Gg qt4
      obtain ⟨cl, hcl⟩ : ∃ x, upS (upS s.end_ 8 / 8) s.align = x := ⟨_, rfl⟩
      rw [hcl]
      have HCL2 := Lib.hid hcl
      clear hcl
      have hM2 := hM.below_ hb2
      obtain ⟨SA, SC, rfl, -⟩ := spts_of_row hM2.r
      have o0 := hM2.o.at_ (i := 0) rfl
      have o1 := hM2.o.at_ (i := 1) rfl
      have o2 := hM2.o.at_ (i := 2) rfl
      have o3 := hM2.o.at_ (i := 3) rfl
      have fo0 := hM2.o.frozen 0
      have fo2 := hM2.o.frozen 2
      have e0 := hM2.re.at_ (i := 0) rfl
      have e1 := hM2.re.at_ (i := 1) rfl
      have e2 := hM2.re.at_ (i := 2) rfl
      have e3 := hM2.re.at_ (i := 3) rfl
      have fe0 := hM2.re.frozen 0
      have fe1 := hM2.re.frozen 1
      have fe2 := hM2.re.frozen 2
      have fe3 := hM2.re.frozen 3
      go_wp2_with fail
      have hre := ((((((hM2.re).far (p := ⟨w.heap.size + 1 + 1, 0, none⟩) (by simp only; omega) (.int .i64 cl)).far (p := ⟨w.heap.size + 1 + 1, 2, none⟩) (by simp only; omega) (.bool (decide (65536 < cl)))).set_ 0 (.int .i64 cl)).set_ 1 (.int .i64 s.align)).set_ 2 (.bool (decide (65536 < cl)))).set_ 3 (.slice SA s.l.length SC)
      have hbe := bel_set (bel_set (bel_set (bel_set (bel_set (bel_set (hM2.bel) (p := ⟨w.heap.size + 1 + 1, 0, none⟩) (by simp only; omega) (.int .i64 cl)) (p := ⟨w.heap.size + 1 + 1, 2, none⟩) (by simp only; omega) (.bool (decide (65536 < cl)))) (p := ⟨w.heap.size + 1, 0, none⟩) (by simp only; omega) (.int .i64 cl)) (p := ⟨w.heap.size + 1, 1, none⟩) (by simp only; omega) (.int .i64 s.align)) (p := ⟨w.heap.size + 1, 2, none⟩) (by simp only; omega) (.bool (decide (65536 < cl)))) (p := ⟨w.heap.size + 1, 3, none⟩) (by simp only; omega) (.slice SA s.l.length SC)
      have hrow := row_set (row_set (row_set (row_set (row_set (row_set (hM2.r) (g := w.heap.size + 1 + 1) (by omega) 0 (.int .i64 cl)) (g := w.heap.size + 1 + 1) (by omega) 2 (.bool (decide (65536 < cl)))) (g := w.heap.size + 1) (by omega) 0 (.int .i64 cl)) (g := w.heap.size + 1) (by omega) 1 (.int .i64 s.align)) (g := w.heap.size + 1) (by omega) 2 (.bool (decide (65536 < cl)))) (g := w.heap.size + 1) (by omega) 3 (.slice SA s.l.length SC)
      obtain ⟨A', c', he, hsp⟩ := spts_of_row hrow
      cases he
      generalize World.setCell _ _ _ = W5 at hre hbe hsp ⊢
      have hre' : Bk W5 (w.heap.size + 1) 58 #[.int .i64 cl, .int .i64 s.align, .bool (decide (65536 < cl)), .slice SA s.l.length SC] := hre
      refine bodyPost_ret (results_at (fn := Try.f113) (k := 2) rfl rfl hre') rfl ?_
      exact ⟨cl, s.align, decide (65536 < cl), SA, s.l.length, SC, rfl, hbe, .inr ⟨s, HS.out, (HCL.out.trans HCL2.out).symm, rfl, by rw [HCL.out, HCL2.out], hsp.less (by omega)⟩⟩
end Go.Proofs.Ytcggghamnmflcaa
