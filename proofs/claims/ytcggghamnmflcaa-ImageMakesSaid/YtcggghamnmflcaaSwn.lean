/- Plain laws of lie: what a type comes to, by its shape; what compound answers is what the document says. -/
import Derived.Test.YtcggghamnmflcaaSwl
namespace Go.Proofs.Ytcggghamnmflcaa
open Go Go.RowKit
/-- What lie answers, in plain words. -/
def LieP (d : Nat) (t : Tp d) (deep : Int) (w : World) (e : Ending) (w' : World) : Prop :=
  ∃ x : BxV, e = .returned (.tuple #[.agg #[.int .i64 x.sz, .int .i64 x.ag, .slice x.A x.n x.c], .int .i64 x.er]) ∧ x.er = lieE d t deep ∧ (x.er = 0 → ∀ b, boxS d t = some b → x.sz = b.size ∧ x.ag = b.align ∧ Spts w.heap.size w' x.A x.n b.l) ∧ Below w.heap.size w w'
theorem lie_bad {d : Nat} {t : Tp d} {deep : Int} {w w' : World} {sz ag : Int} {A : Option Addr} {n c : Nat} (h : plainS d t deep = false) (hb : Below w.heap.size w w') :
    LieP d t deep w (.returned (.tuple #[.agg #[.int .i64 sz, .int .i64 ag, .slice A n c], .int .i64 100])) w' :=
  ⟨⟨sz, ag, A, n, c, 100, .inr (.inl rfl)⟩, rfl, by unfold lieE; rw [if_neg (by simp [h])], fun h => by simp at h, hb⟩
theorem fldE_no {d : Nat} {f : Fld (Tp d)} {deep : Int} (h : fldE d f deep = 100) : (plainS d f.t deep && isFieldS f.nm (tsh d f.t) (tk d f.t) f.bits) = false := by
  unfold fldE at h
  split at h
  · unfold lieE at h
    split at h
    · split at h <;> cases h
    · rename_i hp
      have : plainS d f.t deep = false := by simpa using hp
      rw [this]; rfl
  · rename_i hf
    have : isFieldS f.nm (tsh d f.t) (tk d f.t) f.bits = false := by simpa using hf
    rw [this, Bool.and_false]
theorem fldE_yes {d : Nat} {f : Fld (Tp d)} {deep : Int} (h : fldE d f deep ≠ 100) : (plainS d f.t deep && isFieldS f.nm (tsh d f.t) (tk d f.t) f.bits) = true := by
  unfold fldE at h
  split at h
  · rename_i hf
    unfold lieE at h
    split at h
    · rename_i hp
      rw [hp, hf]; rfl
    · exact absurd rfl h
  · exact absurd rfl h
theorem fldE_big {d : Nat} {f : Fld (Tp d)} {deep : Int} (h : fldE d f deep = 101) : boxS d f.t = none := by
  unfold fldE at h
  split at h
  · unfold lieE at h
    split at h
    · split at h
      · assumption
      · cases h
    · cases h
  · cases h
theorem fold_none {d : Nat} {α : Type} (g : α → Fld (Tp d) → Bx → α) : ∀ (l : List (Fld (Tp d))) (s : α), (∃ f ∈ l, boxS d f.t = none) → l.foldlM (fun s f => (boxS d f.t).map fun b => g s f b) s = none
  | [], s, h => by simp at h
  | f :: l, s, h => by
    rw [List.foldlM_cons]
    cases hb : boxS d f.t with
    | none => rfl
    | some b =>
      rcases h with ⟨f', hf', hn⟩
      rcases List.mem_cons.1 hf' with rfl | hf'
      · rw [hb] at hn; cases hn
      · exact fold_none g l _ ⟨f', hf', hn⟩
theorem fold_some {d : Nat} {un pk : Bool} : ∀ (l : List (Fld (Tp d))) (xs : List BxV) (s : Lay), xs.length = l.length → (∀ p ∈ l.zip xs, ∃ b, boxS d p.1.t = some b ∧ p.2.sz = b.size ∧ p.2.ag = b.align) →
    l.foldlM (fun s f => (boxS d f.t).map fun b => layS un pk f.nm (tk d f.t) f.bits b s) s = some ((l.zip xs).foldl (fun s p => layS un pk p.1.nm (tk d p.1.t) p.1.bits { size := p.2.sz, align := p.2.ag, l := [] } s) s)
  | [], [], s, _, _ => rfl
  | [], _ :: _, _, h, _ => by simp at h
  | _ :: _, [], _, h, _ => by simp at h
  | f :: l, x :: xs, s, h, hp => by
    obtain ⟨b, hb, h1, h2⟩ := hp (f, x) (by simp)
    rw [List.foldlM_cons]
    simp only at hb
    rw [hb]
    have e : layS un pk f.nm (tk d f.t) f.bits b s = layS un pk f.nm (tk d f.t) f.bits { size := x.sz, align := x.ag, l := [] } s := by
      unfold layS
      simp only at h1 h2
      simp only [h1, h2]
    have := fold_some (un := un) (pk := pk) l xs (layS un pk f.nm (tk d f.t) f.bits b s) (by simpa using h) (fun p hp' => hp p (by simp [hp']))
    simp only [Option.map_some, Option.bind_eq_bind, Option.bind_some]
    rw [this, e]
    rfl
theorem zip_box {d : Nat} {deep : Int} {l : List (Fld (Tp d))} {xs : List BxV} (h : PreR d deep l xs) (h0 : ∀ y ∈ xs, y.er = 0) : ∀ p ∈ l.zip xs, ∃ b, boxS d p.1.t = some b ∧ p.2.sz = b.size ∧ p.2.ag = b.align := by
  intro p hp
  obtain ⟨j, hj⟩ := List.mem_iff_getElem?.1 hp
  obtain ⟨f, x⟩ := p
  obtain ⟨hf, hx⟩ := List.getElem?_zip_eq_some.1 hj
  obtain ⟨_, _, b, hb⟩ := fldE_0 (h j x f hx hf) (h0 x (List.mem_of_getElem? hx))
  exact ⟨b, hb⟩
theorem all_pre {d : Nat} {deep : Int} {l : List (Fld (Tp d))} {xs : List BxV} (h : PreR d deep l xs) (h0 : ∀ y ∈ xs, y.er = 0) {j : Nat} {f : Fld (Tp d)} (hj : j < xs.length) (hf : l[j]? = some f) : (plainS d f.t deep && isFieldS f.nm (tsh d f.t) (tk d f.t) f.bits) = true := by
  obtain ⟨x, hx⟩ : ∃ x, xs[j]? = some x := ⟨_, List.getElem?_eq_getElem hj⟩
  obtain ⟨a, b, _⟩ := fldE_0 (h j x f hx hf) (h0 x (List.mem_of_getElem? hx))
  rw [a, b]; rfl
theorem plainS_cmp {d : Nat} {t : Nd (Tp d)} {deep : Int} (hs : t.sh = 4 ∨ t.sh = 5) (hd : 1 ≤ deep) :
    plainS (d + 1) t deep = (t.k == 0 && t.n == 0 && t.of.isEmpty && isAlignS t.al && namedS (t.fs.map Fld.nm) && (t.fs.all fun f => plainS d f.t (deep - 1) && isFieldS f.nm (tsh d f.t) (tk d f.t) f.bits)) := by
  show (if deep < 1 then false else _) = _
  rw [if_neg (by omega), if_neg (by omega), if_neg (by omega), if_neg (by omega), if_pos hs]
theorem boxS_cmp {d : Nat} {t : Nd (Tp d)} (hs : t.sh = 4 ∨ t.sh = 5) :
    boxS (d + 1) t = (match t.fs.foldlM (fun s f => (boxS d f.t).map fun b => layS (t.sh == 5) t.pk f.nm (tk d f.t) f.bits b s) { at_ := 0, end_ := 0, align := max 1 t.al, l := [] } with
      | none => none
      | some s => if 65536 < closeS s then none else some { size := closeS s, align := s.align, l := s.l }) := by
  show (if t.sh = 1 then _ else _) = _
  rw [if_neg (by omega), if_neg (by omega), if_neg (by omega)]
  rfl
/-- What compound answers is what lie is to answer. -/
theorem cmp_law {d : Nat} {t : Nd (Tp d)} {deep : Int} {w w' : World} {e : Ending} (hs : t.sh = 4 ∨ t.sh = 5) (hd : 1 ≤ deep) (hk : t.k = 0) (hn : t.n = 0) (ho : t.of = []) (ha : isAlignS t.al = true) (hnm : namedS (t.fs.map Fld.nm) = true)
    (h : CmpPost deep t.al (t.sh == 5) t.pk t.fs w e w') : LieP (d + 1) t deep w e w' := by
  obtain ⟨x, he, hb, h⟩ := h
  have hp : plainS (d + 1) t deep = (t.fs.all fun f => plainS d f.t (deep - 1) && isFieldS f.nm (tsh d f.t) (tk d f.t) f.bits) := by
    rw [plainS_cmp hs hd, hk, hn, ho, ha, hnm]; rfl
  have h0 : ({ at_ := 0, end_ := 0, align := max 1 t.al, l := [] } : Lay) = lay0 t.al := by unfold lay0; rw [mx_eq]
  have hbx := boxS_cmp hs
  rw [h0] at hbx
  rcases h with ⟨xs, h1, h2, h3, h4⟩ | ⟨pre, y, h1, h2, h3, h4⟩
  · have hall : plainS (d + 1) t deep = true := by
      rw [hp, List.all_eq_true]
      intro f hf
      obtain ⟨j, hj⟩ := List.mem_iff_getElem?.1 hf
      exact all_pre h1 h2 (by rw [h3]; exact (List.getElem?_eq_some_iff.1 hj).1) hj
    rw [fold_some t.fs xs _ h3 (zip_box h1 h2)] at hbx
    change boxS (d + 1) t = (if 65536 < closeS (layK (t.sh == 5) t.pk t.al t.fs xs) then none else some { size := closeS (layK (t.sh == 5) t.pk t.al t.fs xs), align := (layK (t.sh == 5) t.pk t.al t.fs xs).align, l := (layK (t.sh == 5) t.pk t.al t.fs xs).l }) at hbx
    rcases h4 with ⟨hbig, her⟩ | ⟨hfit, her, q1, q2, q3⟩
    · rw [if_pos hbig] at hbx
      refine ⟨x, he, ?_, fun h => by omega, hb⟩
      unfold lieE
      rw [if_pos hall, hbx, her]
    · rw [if_neg (by omega)] at hbx
      refine ⟨x, he, ?_, fun _ b hb' => ?_, hb⟩
      · unfold lieE
        rw [if_pos hall, hbx, her]
      · rw [hbx] at hb'
        cases hb'
        exact ⟨q1, q2, q3⟩
  · obtain ⟨f, hf⟩ : ∃ f, t.fs[pre.length]? = some f := ⟨_, List.getElem?_eq_getElem h3⟩
    have hfm := List.mem_of_getElem? hf
    have hy := (pre_last h1 hf).1
    rcases h4 with ⟨hy0, her⟩ | ⟨hy0, her⟩
    · rw [hy0] at hy
      have hno : plainS (d + 1) t deep = false := by
        rw [hp, List.all_eq_false]
        exact ⟨f, hfm, by rw [fldE_no hy.symm]; simp⟩
      exact ⟨x, he, by unfold lieE; rw [if_neg (by simp [hno]), her], fun h => by omega, hb⟩
    · rw [hy0] at hy
      cases hl : ((t.fs.drop (pre.length + 1)).all fun f => fldE d f (deep - 1) != 100) with
      | true =>
        have her' : x.er = 101 := by rw [her]; unfold laterS; rw [if_pos hl]
        have hall : plainS (d + 1) t deep = true := by
          rw [hp, List.all_eq_true]
          intro g hg
          obtain ⟨j, hj⟩ := List.mem_iff_getElem?.1 hg
          rcases Nat.lt_trichotomy j pre.length with hjl | hjl | hjl
          · exact all_pre (pre_init h1) h2 hjl hj
          · subst hjl
            rw [hf] at hj
            cases hj
            exact fldE_yes (by rw [← hy]; decide)
          · refine fldE_yes ?_
            have hmem : g ∈ t.fs.drop (pre.length + 1) := List.mem_iff_getElem?.2 ⟨j - (pre.length + 1), by rw [List.getElem?_drop, show pre.length + 1 + (j - (pre.length + 1)) = j by omega]; exact hj⟩
            simpa using List.all_eq_true.1 hl g hmem
        rw [fold_none _ _ _ ⟨f, hfm, fldE_big hy.symm⟩] at hbx
        exact ⟨x, he, by unfold lieE; rw [if_pos hall, hbx, her'], fun h => by omega, hb⟩
      | false =>
        have her' : x.er = 100 := by rw [her]; unfold laterS; rw [hl]; rfl
        rw [List.all_eq_false] at hl
        obtain ⟨g, hg, hg2⟩ := hl
        have hno : plainS (d + 1) t deep = false := by
          rw [hp, List.all_eq_false]
          exact ⟨g, List.mem_of_mem_drop hg, by rw [fldE_no (by simpa using hg2)]; simp⟩
        exact ⟨x, he, by unfold lieE; rw [if_neg (by simp [hno]), her'], fun h => by omega, hb⟩
theorem isK_iff (k : Int) : isK k = decide (0 < ksize k) := by
  cases h : isK k with
  | true => have := ksize_pos h; rw [decide_eq_true (by omega)]
  | false => rw [(isK_false h).1]; rfl
/-- A number's type. -/
theorem lie_int {d : Nat} {t : Nd (Tp d)} {deep : Int} {w w' : World} (hd : 1 ≤ deep) (hs : t.sh = 1) (hb : bareS t = true) (hk : 0 < ksize t.k) (hn : t.n = 0) (ho : t.of = []) (hw : Below w.heap.size w w') :
    LieP (d + 1) t deep w (.returned (.tuple #[.agg #[.int .i64 (ksize t.k), .int .i64 (ksize t.k), .slice none 0 0], .int .i64 0])) w' := by
  have hp : plainS (d + 1) t deep = true := by
    show (if deep < 1 then false else _) = _
    rw [if_neg (by omega), if_pos hs, hb, isK_iff, decide_eq_true hk, hn, ho]; rfl
  have hbx : boxS (d + 1) t = some { size := ksize t.k, align := ksize t.k, l := [] } := boxS_int hs
  have hr := ksize_rng t.k
  refine ⟨⟨ksize t.k, ksize t.k, none, 0, 0, 0, .inl ⟨rfl, by omega, by omega, by omega, by omega⟩⟩, rfl, by unfold lieE; rw [if_pos hp, hbx], fun _ b hb => ?_, hw⟩
  rw [hbx] at hb
  cases hb
  exact ⟨rfl, rfl, ⟨rfl, fun i s hs => by simp at hs⟩, fun a ha => by cases ha⟩
theorem lie_ptr {d : Nat} {t : Nd (Tp d)} {deep : Int} {w w' : World} (hd : 1 ≤ deep) (hs : t.sh = 2) (hb : bareS t = true) (hk : t.k = 0) (hn : t.n = 0) (ho : t.of = []) (hw : Below w.heap.size w w') :
    LieP (d + 1) t deep w (.returned (.tuple #[.agg #[.int .i64 8, .int .i64 8, .slice none 0 0], .int .i64 0])) w' := by
  have hp : plainS (d + 1) t deep = true := by
    show (if deep < 1 then false else _) = _
    rw [if_neg (by omega), if_neg (by omega), if_pos hs, hb, hk, hn, ho]; rfl
  have hbx : boxS (d + 1) t = some { size := 8, align := 8, l := [] } := by
    show (if t.sh = 1 then _ else _) = _
    rw [if_neg (by omega), if_pos hs]
  refine ⟨⟨8, 8, none, 0, 0, 0, .inl ⟨rfl, by omega, by omega, by omega, by omega⟩⟩, rfl, by unfold lieE; rw [if_pos hp, hbx], fun _ b hb => ?_, hw⟩
  rw [hbx] at hb
  cases hb
  exact ⟨rfl, rfl, ⟨rfl, fun i s hs => by simp at hs⟩, fun a ha => by cases ha⟩
/-- What is no struct, union and not right at a glance. -/
theorem plain_no {d : Nat} {t : Nd (Tp d)} {deep : Int} (h4 : t.sh ≠ 4) (h5 : t.sh ≠ 5) (h : bareS t = false ∨ ((t.sh == 1 && (decide (0 < ksize t.k) && (t.n == 0 && t.of.isEmpty))) = false ∧ (t.sh == 2 && (t.k == 0 && (t.n == 0 && t.of.isEmpty))) = false ∧ (t.sh == 3 && (t.k == 0 && (decide (0 < t.n) && t.of.length == 1))) = false)) : plainS (d + 1) t deep = false := by
  show (if deep < 1 then false else _) = _
  split
  · rfl
  · split
    · rename_i hs
      rcases h with h | ⟨h, _, _⟩
      · rw [h]; rfl
      · rw [isK_iff]
        rw [hs] at h
        simp only [BEq.rfl, Bool.true_and] at h
        rw [Bool.and_assoc, Bool.and_assoc, h, Bool.and_false]
    · split
      · rename_i hs
        rcases h with h | ⟨_, h, _⟩
        · rw [h]; rfl
        · rw [hs] at h
          simp only [BEq.rfl, Bool.true_and] at h
          rw [Bool.and_assoc, Bool.and_assoc, h, Bool.and_false]
      · split
        · rename_i hs
          rcases h with h | ⟨_, _, h⟩
          · rw [h]; rfl
          · rw [hs] at h
            simp only [BEq.rfl, Bool.true_and] at h
            have e1 : decide (1 ≤ t.n) = decide (0 < t.n) := by rw [decide_eq_decide]; omega
            rw [e1]
            match hof : t.of with
            | [x] =>
              rw [hof] at h
              simp only [List.length_cons, List.length_nil, Nat.zero_add, BEq.rfl, Bool.and_true] at h
              rw [Bool.and_assoc, Bool.and_assoc, ← Bool.and_assoc (t.k == 0), h, Bool.false_and, Bool.and_false]
            | [] => simp
            | _ :: _ :: _ => simp
        · rw [if_neg (by omega)]
/-- An array's type, of its element's. -/
theorem lie_arr {d : Nat} {t : Nd (Tp d)} {x : Tp d} {deep : Int} {w w' : World} {y : BxV} {sz : Int} (hd : 1 ≤ deep) (hs : t.sh = 3) (hb : bareS t = true) (hk : t.k = 0) (hn : 0 < t.n) (ho : t.of = [x])
    (he : y.er = lieE d x (deep - 1)) (hbx : y.er = 0 → ∀ b, boxS d x = some b → y.sz = b.size ∧ y.ag = b.align) (hsz : y.er = 0 → t.n ≤ 65536 → y.sz * t.n ≤ 65536 → sz = y.sz * t.n) (hw : Below w.heap.size w w') :
    LieP (d + 1) t deep w (.returned (.tuple #[.agg #[.int .i64 sz, .int .i64 y.ag, .slice none 0 0], .int .i64 (if y.er = 0 ∧ (65536 < t.n ∨ 65536 < y.sz * t.n) then 101 else y.er)])) w' := by
  have hp : plainS (d + 1) t deep = plainS d x (deep - 1) := by
    show (if deep < 1 then false else _) = _
    rw [if_neg (by omega), if_neg (by omega), if_neg (by omega), if_pos hs, hb, hk, ho, decide_eq_true (show 1 ≤ t.n by omega)]; simp
  have hbox : boxS (d + 1) t = (match boxS d x with | none => none | some b => if 65536 < t.n ∨ 65536 < b.size * t.n then none else some { size := b.size * t.n, align := b.align, l := [] }) := by
    show (if t.sh = 1 then _ else _) = _
    rw [if_neg (by omega), if_neg (by omega), if_pos hs, ho]
    rfl
  rcases y.ok with ⟨h0, k1, k2, k3, k4⟩ | h0 | h0
  · have hl : 0 = lieE d x (deep - 1) := h0 ▸ he
    obtain ⟨hpx, b, hbb⟩ := lieE_0 hl
    obtain ⟨q1, q2⟩ := hbx h0 b hbb
    rw [hbb] at hbox
    simp only at hbox
    by_cases hbig : 65536 < t.n ∨ 65536 < y.sz * t.n
    · rw [if_pos ⟨h0, hbig⟩]
      rw [if_pos (by rw [← q1]; exact hbig)] at hbox
      exact ⟨⟨sz, y.ag, none, 0, 0, 101, .inr (.inr rfl)⟩, rfl, by unfold lieE; rw [if_pos (hp.trans hpx), hbox], fun h => by simp at h, hw⟩
    · rw [if_neg (fun h => hbig h.2), h0]
      rw [if_neg (by rw [← q1]; exact hbig)] at hbox
      have hsz' := hsz h0 (by omega) (by omega)
      have h1 : 1 ≤ y.sz * t.n := Int.mul_pos (by omega) hn
      subst hsz'
      refine ⟨⟨y.sz * t.n, y.ag, none, 0, 0, 0, .inl ⟨rfl, h1, by omega, k3, k4⟩⟩, rfl, by unfold lieE; rw [if_pos (hp.trans hpx), hbox], fun _ b' hb' => ?_, hw⟩
      rw [hbox] at hb'
      cases hb'
      exact ⟨congrArg (· * t.n) q1, q2, ⟨rfl, fun i s hs => by simp at hs⟩, fun a ha => by cases ha⟩
  · rw [if_neg (by omega), h0]
    have hl : 100 = lieE d x (deep - 1) := h0 ▸ he
    refine lie_bad (hp.trans ?_) hw
    unfold lieE at hl
    split at hl
    · split at hl <;> cases hl
    · rename_i hpx; simpa using hpx
  · rw [if_neg (by omega), h0]
    have hl : 101 = lieE d x (deep - 1) := h0 ▸ he
    unfold lieE at hl
    split at hl
    · rename_i hpx
      split at hl
      · rename_i hnone
        rw [hnone] at hbox
        exact ⟨⟨sz, y.ag, none, 0, 0, 101, .inr (.inr rfl)⟩, rfl, by unfold lieE; rw [if_pos (hp.trans hpx), hbox], fun h => by simp at h, hw⟩
      · cases hl
    · cases hl
end Go.Proofs.Ytcggghamnmflcaa
