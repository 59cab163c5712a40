/- A range over an iterator that itself ranges over iterators and keeps cells of its own: what each party keeps, and the law of such a loop. -/
import Derived.Test.YtcggghamnmflcaaSwj
namespace Go.Proofs.Ytcggghamnmflcaa
open Go Go.RowKit Go.Shelf
theorem yield_any {m m' l : Nat} {P : Program} {args : Array Value} {W : World} {R : Ending → World → Prop} (h : YieldAt Fence.wide m P l args W R) : YieldAt Fence.wide m' P l args W R := by
  obtain ⟨fn, tmps, assign, body, h1, h2⟩ := h
  exact ⟨fn, tmps, assign, body, h1, h2.1, fun c cs _ => h2.2 c cs (room_wide _)⟩
theorem yield_round {m l lr : Nat} {P : Program} {args : Array Value} {W : World} {R : Ending → World → Prop} (h : YieldAt Fence.wide m P l args W R) : YieldAt (Fence.wide.inRound lr) m P l args W R := h
theorem YieldAt.mono_ {F : Fence} {m l : Nat} {P : Program} {args : Array Value} {W : World} {R R' : Ending → World → Prop} (h : YieldAt F m P l args W R) (hr : ∀ e w', R e w' → R' e w') : YieldAt F m P l args W R' := by
  obtain ⟨fn, tmps, assign, body, h1, h2⟩ := h
  exact ⟨fn, tmps, assign, body, h1, h2.mono hr⟩
/-- The block that the slice in box Lb points to. -/
def ownB (Lb : Nat) (W : World) : Option Nat := (W.cell? ⟨Lb, 0, none⟩).bind Value.ownBlock
/-- The consumer's own blocks: those from n₀ to Lb, and that to which the slice in box Lb points. -/
def Mine (n₀ Lb : Nat) (W : World) (k : Nat) : Prop := (n₀ ≤ k ∧ k ≤ Lb) ∨ ownB Lb W = some k
/-- What a step of the consumer's keeps. -/
structure KpQ (n₀ Lb B0 : Nat) (W W' : World) : Prop where
  bel : Below n₀ W W'
  keeps : KeepsFrom B0 W W'
  cells : ∀ (k : Nat) (o : Obj), W.heap[k]? = some o → o.isCells = true → ¬ Mine n₀ Lb W k → W'.heap[k]? = some o
  mine : ∀ k, k < W.heap.size → Mine n₀ Lb W' k → Mine n₀ Lb W k
  ok : (∀ k, Mine n₀ Lb W k → k < W.heap.size) → ∀ k, Mine n₀ Lb W' k → k < W'.heap.size
section
variable {n₀ Lb B0 B1 : Nat} {A B C W W' : World}
theorem KpQ.refl (W : World) : KpQ n₀ Lb B0 W W := ⟨Below.refl _ _, KeepsFrom.refl _ _, fun _ _ h _ _ => h, fun _ _ h => h, fun h => h⟩
theorem lt_of_at {W : World} {k : Nat} {o : Obj} (h : W.heap[k]? = some o) : k < W.heap.size := (Array.getElem?_eq_some_iff.1 h).1
theorem KpQ.trans (h : KpQ n₀ Lb B0 A B) (k : KpQ n₀ Lb B0 B C) : KpQ n₀ Lb B0 A C :=
  ⟨h.bel.trans k.bel, h.keeps.trans k.keeps, fun i o hi ho hm => k.cells i o (h.cells i o hi ho hm) ho fun hm' => hm (h.mine i (lt_of_at hi) hm'), fun i hi hm => h.mine i hi (k.mine i (Nat.lt_of_lt_of_le hi h.keeps.size) hm), fun ho => k.ok (h.ok ho)⟩
theorem KpQ.up (h : KpQ n₀ Lb B0 A B) (hB : B0 ≤ B1) : KpQ n₀ Lb B1 A B := ⟨h.bel, ⟨h.keeps.size, fun k o hk => h.keeps.same k o (Nat.le_trans hB hk)⟩, h.cells, h.mine, h.ok⟩
theorem ownB_same (h : W'.heap[Lb]? = W.heap[Lb]?) : ownB Lb W' = ownB Lb W := by unfold ownB; rw [World.cell?_of_block (a := ⟨Lb, 0, none⟩) h]
theorem Mine_same (h : W'.heap[Lb]? = W.heap[Lb]?) (k : Nat) : Mine n₀ Lb W' k ↔ Mine n₀ Lb W k := by unfold Mine; rw [ownB_same h]
/-- A step that makes memory alone. -/
theorem KpQ.of_below (h : Below W.heap.size W W') (hn : n₀ ≤ W.heap.size) (hL : Lb < W.heap.size) : KpQ n₀ Lb B0 W W' :=
  ⟨h.mono hn, keeps_below (KeepsFrom.refl _ _) h, fun k _ hk _ _ => (h.block k (lt_of_at hk)).trans hk, fun k _ hm => (Mine_same (h.block Lb hL) k).1 hm, fun ho k hm => Nat.lt_of_lt_of_le (ho k ((Mine_same (h.block Lb hL) k).1 hm)) h.size⟩
/-- The loop's own book-keeping. -/
theorem KpQ.putObj {l : Nat} {o : Obj} (o' : Obj) (hl : W.heap[l]? = some o) (ho : o.isCells = false) (hn : n₀ ≤ l) (hB : l < B0) (hL : Lb ≠ l) : KpQ n₀ Lb B0 W (W.putObj l o') := by
  have hne : ∀ k, k ≠ l → (W.putObj l o').heap[k]? = W.heap[k]? := fun k hk => World.putObj_heap_other hk
  have hlt := lt_of_at hl
  refine ⟨(Below.refl n₀ W).grown (grownBy_putObj' W l o') (by omega) (fun k e => by cases e; omega), ⟨by simp, fun k o2 hk h2 _ => (hne k (by omega)).trans h2⟩, fun k o2 hk h2 _ => ?_, fun k _ hm => (Mine_same (hne Lb hL) k).1 hm, fun hok k hm => ?_⟩
  · by_cases e : k = l
    · subst e; rw [hl] at hk; cases hk; rw [ho] at h2; cases h2
    · exact (hne k e).trans hk
  · have := hok k ((Mine_same (hne Lb hL) k).1 hm)
    simpa using this
/-- What holds of worlds between two rounds, as seen from a start. -/
structure TrQ (n₀ Lb : Nat) (W W' : World) : Prop where
  bel : Below n₀ W W'
  cells : ∀ (k : Nat) (o : Obj), W.heap[k]? = some o → o.isCells = true → ¬ Mine n₀ Lb W k → W'.heap[k]? = some o
  mine : ∀ k, k < W.heap.size → Mine n₀ Lb W' k → Mine n₀ Lb W k
  ok : ∀ k, Mine n₀ Lb W' k → k < W'.heap.size
theorem TrQ.refl (h : ∀ k, Mine n₀ Lb W k → k < W.heap.size) : TrQ n₀ Lb W W := ⟨Below.refl _ _, fun _ _ h _ _ => h, fun _ _ h => h, h⟩
theorem TrQ.step (h : TrQ n₀ Lb A B) (k : KpQ n₀ Lb B0 B C) : TrQ n₀ Lb A C :=
  ⟨h.bel.trans k.bel, fun i o hi ho hm => k.cells i o (h.cells i o hi ho hm) ho fun hm' => hm (h.mine i (lt_of_at hi) hm'), fun i hi hm => h.mine i hi (k.mine i (Nat.lt_of_lt_of_le hi h.bel.size) hm), k.ok h.ok⟩
theorem TrQ.bk {g : Nat} {t : TypeId} {cs : Array Value} (h : TrQ n₀ Lb W W') (hb : Bk W g t cs) (hm : ¬ Mine n₀ Lb W g) : Bk W' g t cs ∧ ¬ Mine n₀ Lb W' g := ⟨h.cells g _ hb rfl hm, fun h' => hm (h.mine g hb.lt h')⟩
/-- It abides steps that make memory, or turn what is no cells from the start's end on. -/
theorem TrQ.own {β : Type} (hn : n₀ ≤ W.heap.size) (hL : Lb < W.heap.size) {B1 : Nat} (hB : W.heap.size ≤ B1) : OwnFrom B1 (fun (_ : β) W' => TrQ n₀ Lb W W') := fun _ A C row h hg hr => by
  have hs := h.bel.size
  have hb : ∀ k, k < W.heap.size → C.heap[k]? = A.heap[k]? := fun k hk => hg.block k (by omega) fun e => by have := (hr k e.symm).1; omega
  refine ⟨h.bel.grown hg (by omega) (fun k e => by have := (hr k e).1; omega), fun k o hk ho hm => (hb k (lt_of_at hk)).trans (h.cells k o hk ho hm), fun k hk hm => h.mine k hk ((Mine_same (hb Lb hL) k).1 hm), fun k hm => ?_⟩
  exact Nat.lt_of_lt_of_le (h.ok k ((Mine_same (hb Lb hL) k).1 hm)) hg.size
end
/-- An iterator's contract: it gives xs, one behind the other. -/
def SeqQ {α : Type} (P : Program) (n₀ Lb : Nat) (g : Nat) (lb : Array Value) (encs : α → Array Value) (xs : List α) (w : World) : Prop :=
  ∀ (l : Nat) (J Jx : List α → World → Prop) (W : World), TrQ n₀ Lb w W → w.heap.size ≤ W.heap.size → OwnFrom W.heap.size J → OwnFrom W.heap.size Jx →
    (∀ pre x W1, J pre W1 → YieldAt Fence.wide 0 P l (encs x) W1 fun e W' => (e = .returned (.bool true) ∧ J (pre ++ [x]) W' ∧ KpQ n₀ Lb W.heap.size W1 W') ∨ (e = .returned (.bool false) ∧ Jx (pre ++ [x]) W' ∧ KpQ n₀ Lb W.heap.size W1 W')) →
    J [] W →
    Calls P g (#[.func (.yield l) #[] #[]] ++ lb) W fun e W' => (∃ v, e = .returned v) ∧ (J xs W' ∨ (∃ pre, pre <+: xs ∧ Jx pre W'))
/-- How the body of a round may be left. -/
def postQ {α : Type} (n₀ Lb B : Nat) (I : List α → World → Prop) (Ix : Code → List α → World → Prop) (xs : List α) (W : World) : Exit → Act → World → Prop
  | .normal, _, W' => KpQ n₀ Lb B W W' ∧ I xs W'
  | .ret, _, W' => KpQ n₀ Lb B W W' ∧ Ix .ret xs W'
  | .exit id, _, W' => KpQ n₀ Lb B W W' ∧ Ix (.exit id) xs W'
  | .goto t, _, W' => KpQ n₀ Lb B W W' ∧ Ix (.goto t) xs W'
  | .panic _, _, _ => False
  | .outgrown, _, _ => False
/-- The mark of a loop whose block is D. -/
def markQ (D : Nat) : Deferred := { target := .collected D, args := #[] }
theorem below_put {n₀ l : Nat} {W : World} {o' : Obj} (hn : n₀ ≤ l) (hl : l < W.heap.size) : Below n₀ W (W.putObj l o') := (Below.refl n₀ W).grown (grownBy_putObj' W l o') (by omega) (fun k e => by cases e; exact hn)
theorem keeps_put {B l : Nat} {W : World} {o' : Obj} (hl : l < B) : KeepsFrom B W (W.putObj l o') := ⟨by simp, fun k _ hk h2 _ => (World.putObj_heap_other (by omega)).trans h2⟩
/-- The law of a loop over such an iterator. -/
theorem range_q {α : Type} {P : Program} {g : Operand} {ps : Array Tmp} {assign body : Code} {Q : Exit → Act → World → Prop} {a : Act} {w : World} {gf : Nat} {lb : Array Value} {encs : α → Array Value} {xs : List α} {n₀ Lb : Nat}
    (hg : a.eval g = .func (.func gf) #[] lb) (eg : ∀ args w, (callFunc gf args).run P w = .ok (.enter gf args) w)
    (hseq : SeqQ P n₀ Lb gf lb encs xs w) (hn : n₀ ≤ w.heap.size) (hL : Lb < w.heap.size) (hok : ∀ k, Mine n₀ Lb w k → k < w.heap.size) (hps : ∀ x, (encs x).size = ps.size)
    (I : List α → World → Prop) (Ix : Code → List α → World → Prop) (hI : OwnFrom w.heap.size I) (hIx : ∀ c, OwnFrom w.heap.size (Ix c)) (h0 : I [] w) (Ax : List α → α → Act → World → Prop) (hAx : ∀ pre x a', OwnFrom w.heap.size (fun (_ : Unit) W => Ax pre x a' W))
    (hassign : ∀ (l : Nat) (pre : List α) (x : α) (W : World) (K : Act → World → Prop), I pre W → (∀ a' W', KpQ n₀ Lb w.heap.size W W' → Ax pre x a' W' → K a' W') →
      assign.wpIn (Fence.wide.inRound l) 8 P (Exit.then K (fun _ _ _ => False)) { tmps := (ps.zip (encs x)).foldl (fun t (p, v) => t.setIfInBounds p v) a.tmps, defers := [] } W)
    (hbody : ∀ (l : Nat) (pre : List α) (x : α) (a' : Act) (W : World), w.heap.size ≤ l → Ax pre x a' W → body.wpIn (Fence.wide.inRound l) 8 P (postQ n₀ Lb w.heap.size I Ix (pre ++ [x]) W) a' W)
    (hdone : ∀ (W : World), I xs W → W.heap[w.heap.size]? = some (.deferred (some [])) → Q .normal { a with defers := markQ w.heap.size :: a.defers } W)
    (hstop : ∀ (c : Code) (pre : List α) (W : World), pre <+: xs → Ix c pre W → W.heap[w.heap.size]? = some (.deferred (some [])) → c.wp P Q { a with defers := markQ w.heap.size :: a.defers } W) :
    (Code.rangeFunc g ps assign body).wp P Q a w := by
  refine (wpIn_wide (n := 9)).1 (wpIn_rangeFunc fun fn _ => ?_)
  obtain ⟨L, hLd⟩ : ∃ L, w.heap.size + 1 = L := ⟨_, rfl⟩
  obtain ⟨rc, hrc⟩ : ∃ rc : LoopState → Option Code → Loop, rc = fun st pe => { state := st, pending := pe, fn := fn, tmps := a.tmps, params := ps, assign := assign, body := body, defers := w.heap.size } := ⟨_, rfl⟩
  obtain ⟨X, hX⟩ : ∃ X, (w.alloc (.deferred (some []))).alloc (.loop (rc .ready none)) = X := ⟨_, rfl⟩
  have hXs : X.heap.size = w.heap.size + 2 := by rw [← hX]; simp
  have hbX : Below w.heap.size w X := by rw [← hX]; exact bel_alloc (bel_alloc (Below.refl _ _) _) _
  have bL : X.heap[L]? = some (.loop (rc .ready none)) := by
    have := heap_alloc_new (w.alloc (.deferred (some []))) (.loop (rc .ready none))
    rw [World.size_alloc, hX] at this
    rw [← hLd]; exact this
  have bD : X.heap[w.heap.size]? = some (.deferred (some [])) := by
    rw [← hX]
    exact (Below.heap_alloc _ _ _ (by simp)).trans (heap_alloc_new w _)
  have okX : ∀ k, Mine n₀ Lb X k → k < X.heap.size := fun k hm => by have := hok k ((Mine_same (hbX.block Lb hL) k).1 hm); omega
  have trX : TrQ n₀ Lb w X := ⟨hbX.mono hn, fun k o hk _ _ => (hbX.block k (lt_of_at hk)).trans hk, fun k _ hm => (Mine_same (hbX.block Lb hL) k).1 hm, okX⟩
  have ownUp : ∀ {β : Type} {J : β → World → Prop}, OwnFrom w.heap.size J → OwnFrom X.heap.size J := fun h s A C row hs hg' hr => h s A C row hs hg' fun r e => ⟨by have := (hr r e).1; omega, (hr r e).2⟩
  have obj : ∀ (k : Nat) (o : Obj), k < X.heap.size → OwnFrom X.heap.size (fun (_ : List α) W => W.heap[k]? = some o) := fun k o hk _ A C row hs hg' hr => (hg'.block k (lt_of_at hs) fun e => by have := (hr k e.symm).1; omega).trans hs
  refine ⟨L, [markQ w.heap.size], X, { target := .fn (.func gf) lb, args := #[.func (.yield L) #[] #[]] }, X, gf, #[.func (.yield L) #[] #[]] ++ lb, X, ?_, ?_, fun _ _ => trivial, ?_, (fun _ => by omega), callsIn_wide.2 ?_⟩
  · rw [← hX, ← hLd, hrc]; exact run_enterLoop_outer _ _ _ _ _
  · simp only [resolve, hg]
    simp [go_sem]
  · simp [invoke, go_sem, eg]
  refine (hseq L (fun pre W => I pre W ∧ (W.heap[L]? = some (.loop (rc .ready none)) ∧ W.heap[w.heap.size]? = some (.deferred (some []))))
    (fun pre W => ∃ c, Ix c pre W ∧ (W.heap[L]? = some (.loop (rc .done (some c))) ∧ W.heap[w.heap.size]? = some (.deferred (some []))))
    X trX (by omega) ((ownUp hI).and ((obj L _ (by omega)).and (obj _ _ (by omega)))) ?ownx ?round ⟨by rw [← hX]; exact hI.alloc _ (hI.alloc _ h0), bL, bD⟩).mono ?after
  case ownx =>
    rintro s A C row ⟨c, h1, h2, h3⟩ hg' hr
    exact ⟨c, ownUp (hIx c) s A C row h1 hg' hr, obj L _ (by omega) s A C row h2 hg' hr, obj _ _ (by omega) s A C row h3 hg' hr⟩
  case round =>
    rintro pre x W ⟨hi, hl, hd⟩
    have hy := run_yield (P := P) (args := encs x) hl (by rw [hrc]; exact hps x)
    rw [hrc] at hy
    refine yield_any (m := 8) ⟨fn, _, assign, body, hy, roundIn_of_wpIn trivial (hassign L pre x W _ hi fun a' Wa hka hax => ?_)⟩
    replace hl := hka.keeps.same L _ (by omega) hl rfl
    replace hd := hka.keeps.same _ _ (Nat.le_refl _) hd rfl
    refine ⟨_, run_beginRound hl (by rw [hrc]), ?_⟩
    obtain ⟨busy, hbusy⟩ : ∃ b : Obj, b = .loop { rc .ready none with state := .busy } := ⟨_, rfl⟩
    rw [← hbusy]
    have hLne : Lb ≠ L := by omega
    have kq1 : KpQ n₀ Lb X.heap.size Wa (Wa.putObj L busy) := KpQ.putObj busy hl rfl (by omega) (by omega) hLne
    have hl2 : (Wa.putObj L busy).heap[L]? = some busy := World.putObj_heap_same (lt_of_at hl)
    have hd2 : (Wa.putObj L busy).heap[w.heap.size]? = some (.deferred (some [])) := (World.putObj_heap_other (by omega)).trans hd
    refine wpIn_mono (hbody L pre x a' _ (by omega) ((hAx pre x a').putObj (s := ()) busy hax (by omega) hl rfl)) ?_
    have fin : ∀ (jump : Option Code) (W3 : World), KeepsFrom w.heap.size (Wa.putObj L busy) W3 →
        ∃ o' : Obj, o' = .loop (rc (if jump.isNone then .ready else .done) jump) ∧ (Instr.endRound L jump).run P W3 = .ok (.bool jump.isNone) (W3.putObj L o') ∧ W3.heap[L]? = some busy ∧ (W3.putObj L o').heap[L]? = some o' ∧ (W3.putObj L o').heap[w.heap.size]? = some (.deferred (some [])) := fun jump W3 hk => by
      have h3 := hk.same L _ (by omega) hl2 (by rw [hbusy]; rfl)
      have h3' := h3
      rw [hbusy] at h3'
      have hr := run_endRound (P := P) jump h3'
      refine ⟨_, rfl, ?_, h3, World.putObj_heap_same (lt_of_at h3), (World.putObj_heap_other (by omega)).trans (hk.same _ _ (Nat.le_refl _) hd2 rfl)⟩
      rw [hrc] at hr ⊢
      exact hr
    have kf : ∀ W3 o', KpQ n₀ Lb w.heap.size (Wa.putObj L busy) W3 → W3.heap[L]? = some busy → KpQ n₀ Lb X.heap.size W (W3.putObj L o') := fun W3 o' hk hl3 =>
      (((hka.up (by omega)).trans kq1).trans (hk.up (by omega))).trans (KpQ.putObj o' hl3 (by rw [hbusy]; rfl) (by omega) (by omega) hLne)
    have hbc : busy.isCells = false := by rw [hbusy]; rfl
    intro e a3 W3 hp
    cases e with
    | normal =>
      obtain ⟨hk3, hi3⟩ := hp
      obtain ⟨o', ho', hr, hl3, hl4, hd4⟩ := fin none W3 hk3.keeps
      rw [ho'] at hl4
      exact ⟨_, _, hr, .inl ⟨rfl, ⟨hI.putObj o' hi3 (by omega) hl3 hbc, by rw [ho'] at *; exact hl4, hd4⟩, kf _ _ hk3 hl3⟩⟩
    | ret =>
      obtain ⟨hk3, hi3⟩ := hp
      obtain ⟨o', ho', hr, hl3, hl4, hd4⟩ := fin (some .ret) W3 hk3.keeps
      exact ⟨_, _, hr, .inr ⟨rfl, ⟨.ret, (hIx _).putObj o' hi3 (by omega) hl3 hbc, by rw [hl4, ho']; rfl, hd4⟩, kf _ _ hk3 hl3⟩⟩
    | exit id =>
      obtain ⟨hk3, hi3⟩ := hp
      obtain ⟨o', ho', hr, hl3, hl4, hd4⟩ := fin (some (.exit id)) W3 hk3.keeps
      exact ⟨_, _, hr, .inr ⟨rfl, ⟨.exit id, (hIx _).putObj o' hi3 (by omega) hl3 hbc, by rw [hl4, ho']; rfl, hd4⟩, kf _ _ hk3 hl3⟩⟩
    | goto t =>
      obtain ⟨hk3, hi3⟩ := hp
      obtain ⟨o', ho', hr, hl3, hl4, hd4⟩ := fin (some (.goto t)) W3 hk3.keeps
      exact ⟨_, _, hr, .inr ⟨rfl, ⟨.goto t, (hIx _).putObj o' hi3 (by omega) hl3 hbc, by rw [hl4, ho']; rfl, hd4⟩, kf _ _ hk3 hl3⟩⟩
    | panic ch => exact hp.elim
    | outgrown => exact hp.elim
  case after =>
    rintro e W2 ⟨⟨v, rfl⟩, (⟨hi, hl, hd⟩ | ⟨pre, hpre, c, hi, hl, hd⟩)⟩
    · have hr := run_endLoop (P := P) hl (by rw [hrc]; simp)
      rw [hrc] at hr
      exact ⟨none, _, hr, hdone _ (hI.putObj _ hi (by omega) hl rfl) ((World.putObj_heap_other (by omega)).trans hd)⟩
    · have hr := run_endLoop (P := P) hl (by rw [hrc]; simp)
      rw [hrc] at hr
      exact ⟨some c, _, hr, wpIn_wide.2 (hstop c pre _ hpre ((hIx c).putObj _ hi (by omega) hl rfl) ((World.putObj_heap_other (by omega)).trans hd))⟩
end Go.Proofs.Ytcggghamnmflcaa
