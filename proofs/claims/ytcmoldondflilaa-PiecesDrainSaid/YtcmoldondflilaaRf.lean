/- A range over a function ('for x := range seq'), in this seat's words of memory: an iterator that calls, makes memory and turns blocks of its own; the loop's body turns blocks of its own. No program in sight. -/
import Derived.Test.YtcmoldondflilaaLib
import Derived.RangeFuncWrites
import Derived.RangeFuncLeaves
import Derived.RangeFuncCalls
import Derived.RangeFuncBound
namespace Go.Proofs.Ytcmoldondflilaa.Q
set_option linter.unusedVariables false
set_option linter.unusedSimpArgs false
set_option maxRecDepth 100000
open Go.RowKit
/-- Below block B just the blocks in F were turned. -/
structure KB (B : Nat) (F : List Nat) (w w' : World) : Prop where
  os : w'.os = w.os
  tape : w'.tape = w.tape
  output : w'.output = w.output
  size : w.heap.size ≤ w'.heap.size
  block : ∀ k, k < B → k ∉ F → w'.heap[k]? = w.heap[k]?
theorem KB.refl (B : Nat) (F : List Nat) (w : World) : KB B F w w := ⟨rfl, rfl, rfl, Nat.le_refl _, fun _ _ _ => rfl⟩
theorem KB.trans {B : Nat} {F : List Nat} {a b c : World} (h : KB B F a b) (k : KB B F b c) : KB B F a c :=
  ⟨k.os.trans h.os, k.tape.trans h.tape, k.output.trans h.output, Nat.le_trans h.size k.size, fun i hi hn => (k.block i hi hn).trans (h.block i hi hn)⟩
theorem KB.sub {B : Nat} {F F' : List Nat} {a b : World} (h : KB B F a b) (hF : ∀ x ∈ F, x < B → x ∈ F') : KB B F' a b :=
  ⟨h.os, h.tape, h.output, h.size, fun i hi hn => h.block i hi (fun hm => hn (hF i hm hi))⟩
theorem KB.of_keeps {B : Nat} {F : List Nat} {a b : World} (h : Keeps F a b) (hB : B ≤ a.heap.size) : KB B F a b :=
  ⟨h.os, h.tape, h.output, h.size, fun i hi hn => h.block i (by omega) hn⟩
theorem KB.keeps {B : Nat} {F F' : List Nat} {w a b : World} (h : KB B F a b) (h0 : Keeps F' w a) (hw : w.heap.size ≤ B) (hF : ∀ x ∈ F, x < w.heap.size → x ∈ F') : Keeps F' w b :=
  ⟨h.os.trans h0.os, h.tape.trans h0.tape, h.output.trans h0.output, Nat.le_trans h0.size h.size, fun i hi hn => (h.block i (by omega) (fun hm => hn (hF i hm hi))).trans (h0.block i hi hn)⟩
theorem KB.put {B l : Nat} (hl : B ≤ l) (F : List Nat) (w : World) (o : Obj) : KB B F w (w.putObj l o) :=
  ⟨rfl, rfl, rfl, by simp, fun k hk _ => World.putObj_heap_other (by omega)⟩
theorem KB.alloc (B : Nat) (F : List Nat) (w : World) (o : Obj) (hB : B ≤ w.heap.size) : KB B F w (w.alloc o) := KB.of_keeps (Keeps.alloc F w o) hB
theorem KB.blk {B : Nat} {F : List Nat} {a b : World} (h : KB B F a b) {g : Nat} {e : TypeId} {cs : List Value} (hg : Blk a g e cs) (h1 : g < B) (h2 : g ∉ F) : Blk b g e cs := by
  obtain ⟨fz, hh, hn⟩ := hg
  exact ⟨fz, (h.block g h1 h2).trans hh, hn⟩
theorem KB.cell {B : Nat} {F : List Nat} {a b : World} (h : KB B F a b) {p : Addr} (h1 : p.block < B) (h2 : p.block ∉ F) : b.cell? p = a.cell? p := World.cell?_of_block (h.block p.block h1 h2)
/-- A loop's record is no block of cells. -/
theorem Blk.not_loop {w : World} {g l : Nat} {e : TypeId} {cs : List Value} (h : Blk w g e cs) {o : Obj} (hl : w.heap[l]? = some o) (ho : o.isCells = false) : g ≠ l := by
  rintro rfl
  obtain ⟨fz, hh, _⟩ := h
  rw [hh] at hl
  injection hl with hl
  subst hl
  simp [Obj.isCells] at ho
theorem Blk.putObj {w : World} {g l : Nat} {e : TypeId} {cs : List Value} (h : Blk w g e cs) {o : Obj} (o' : Obj) (hl : w.heap[l]? = some o) (ho : o.isCells = false) : Blk (w.putObj l o') g e cs := by
  have hne := h.not_loop hl ho
  obtain ⟨fz, hh, hn⟩ := h
  exact ⟨fz, (World.putObj_heap_other hne).trans hh, hn⟩
theorem Own.putObj {w : World} {base l s n : Nat} {e : TypeId} {v : Value} {xs : List Value} (h : Own w base e s v n xs) {o : Obj} (o' : Obj) (hl : w.heap[l]? = some o) (ho : o.isCells = false) : Own (w.putObj l o') base e s v n xs := by
  obtain ⟨h1, h2⟩ := h
  refine ⟨h1, h2.imp id ?_⟩
  rintro ⟨g, pre, post, cap, hv, hb, hg, h3⟩
  exact ⟨g, pre, post, cap, hv, hb, hg.putObj o' hl ho, h3⟩
theorem Keeps.other {F : List Nat} {w w' : World} (h : Keeps F w w') {l : Nat} {o : Obj} (hl : w.heap[l]? = some o) (hF : l ∉ F) : w'.heap[l]? = some o :=
  (h.block l (Array.getElem?_eq_some_iff.1 hl).1 hF).trans hl

/-- What an iterator promises: it turns Fi alone; between two rounds what was turned below B lies in Fb; Pr is told of what it hands on; S where all has come, Sp where a round said 'no more'. -/
def Itr {α : Type} (P : Program) (g : Nat) (lb : Array Value) (encs : α → Array Value) (B : Nat) (Fi Fb : List Nat) (Pr : List α → α → World → Prop) (S Sp : List α → World → Prop) (w : World) : Prop :=
  ∀ (l : Nat) (J Jx : List α → World → Prop) (W : World), Keeps [] w W →
    (∀ pre A C, J pre A → Keeps Fi A C → J pre C) → (∀ pre A C, Jx pre A → Keeps Fi A C → Jx pre C) →
    (∀ pre x W1, J pre W1 → Pr pre x W1 → YieldAt Fence.wide 7 P l (encs x) W1 fun e W' => KB B Fb W1 W' ∧
      ((e = .returned (.bool true) ∧ J (pre ++ [x]) W') ∨ (e = .returned (.bool false) ∧ Jx (pre ++ [x]) W'))) →
    J [] W → CallsIn Fence.wide 8 P g (#[.func (.yield l) #[] #[]] ++ lb) W fun e W' => (∃ v, e = .returned v) ∧ ((∃ xs, S xs W' ∧ J xs W') ∨ (∃ pre, Sp pre W' ∧ Jx pre W'))
/-- How a round's body may be left. -/
def rfPost {α : Type} (Fb : List Nat) (I : List α → World → Prop) (Ix : Code → List α → World → Prop) (xs : List α) (W : World) : Exit → Act → World → Prop
  | .normal, _, W' => Keeps Fb W W' ∧ I xs W'
  | .ret, _, W' => Keeps Fb W W' ∧ Ix .ret xs W'
  | .exit id, _, W' => Keeps Fb W W' ∧ Ix (.exit id) xs W'
  | .goto t, _, W' => Keeps Fb W W' ∧ Ix (.goto t) xs W'
  | .panic _, _, _ => False
  | .outgrown, _, _ => False
theorem wp_rangeFunc {P : Program} {α : Type} {g : Operand} {ps : Array Tmp} {assign body : Code} {Q : Exit → Act → World → Prop} {a : Act} {w : World}
    {gf : Nat} {lb : Array Value} (hg : a.eval g = .func (.func gf) #[] lb) (eg : ∀ args w, (callFunc gf args).run P w = .ok (.enter gf args) w)
    {encs : α → Array Value} {Fi Fb : List Nat} {Pr : List α → α → World → Prop} {S Sp : List α → World → Prop} (hseq : Itr P gf lb encs w.heap.size Fi Fb Pr S Sp w)
    (hFi : ∀ x ∈ Fi, x < w.heap.size) (hFb : ∀ x ∈ Fb, x < w.heap.size) (hps : ∀ x, (encs x).size = ps.size)
    (hS : ∀ xs A C, S xs A → KB w.heap.size [] A C → S xs C) (hSp : ∀ xs A C, Sp xs A → KB w.heap.size [] A C → Sp xs C)
    (hPr : ∀ pre x A l o o', Pr pre x A → A.heap[l]? = some o → o.isCells = false → Pr pre x (A.putObj l o'))
    (I : List α → World → Prop) (Ix : Code → List α → World → Prop) (hI : ∀ pre A C, I pre A → KB w.heap.size Fi A C → I pre C) (hIx : ∀ c pre A C, Ix c pre A → KB w.heap.size Fi A C → Ix c pre C) (h0 : I [] w) (a₁ : α → Act)
    (hassign : ∀ (l : Nat) (x : α) (W : World) (K : Act → World → Prop), K (a₁ x) W →
      assign.wpIn (Fence.wide.inRound l) 7 P (Exit.then K (fun _ _ _ => False)) { tmps := (ps.zip (encs x)).foldl (fun t (p, v) => t.setIfInBounds p v) a.tmps, defers := [] } W)
    (hbody : ∀ (l : Nat) (pre : List α) (x : α) (W : World), w.heap.size ≤ W.heap.size → I pre W → Pr pre x W → body.wpIn (Fence.wide.inRound l) 7 P (rfPost Fb I Ix (pre ++ [x]) W) (a₁ x) W)
    (hdone : ∀ (D : Nat) (xs : List α) (W : World), w.heap.size ≤ D → S xs W → I xs W → W.heap[D]? = some (.deferred (some [])) → Q .normal { a with defers := { target := .collected D, args := #[] } :: a.defers } W)
    (hstop : ∀ (D : Nat) (c : Code) (pre : List α) (W : World), w.heap.size ≤ D → Sp pre W → Ix c pre W → W.heap[D]? = some (.deferred (some [])) → c.wp P Q { a with defers := { target := .collected D, args := #[] } :: a.defers } W) :
    (Code.rangeFunc g ps assign body).wp P Q a w := by
  refine (wpIn_wide (n := 9)).1 (Go.wpIn_rangeFunc ?_)
  intro fn hfn
  obtain ⟨rec, hrec⟩ : ∃ rec : LoopState → Option Code → Loop, rec = fun st pe => { state := st, pending := pe, fn, tmps := a.tmps, params := ps, assign, body, defers := w.heap.size } := ⟨_, rfl⟩
  obtain ⟨W1, hW1⟩ : ∃ W1, (w.alloc (.deferred (some []))).alloc (.loop (rec .ready none)) = W1 := ⟨_, rfl⟩
  have kW1 : Keeps [] w W1 := by rw [← hW1]; exact (Keeps.alloc [] w _).alloc1 _
  have hD1 : W1.heap[w.heap.size]? = some (.deferred (some [])) := by
    rw [← hW1]
    exact (Below.heap_alloc _ _ _ (by simp)).trans (World.alloc_heap_new w _)
  have hL1 : W1.heap[w.heap.size + 1]? = some (.loop (rec .ready none)) := by
    rw [← hW1]
    have := World.alloc_heap_new (w.alloc (.deferred (some []))) (.loop (rec .ready none))
    rwa [World.size_alloc] at this
  have hnL : ∀ F : List Nat, (∀ x ∈ F, x < w.heap.size) → ∀ k, w.heap.size ≤ k → k ∉ F := fun F hF k hk hm => by have := hF k hm; omega
  refine ⟨w.heap.size + 1, [{ target := .collected w.heap.size, args := #[] }], W1, { target := .fn (.func gf) lb, args := #[.func (.yield (w.heap.size + 1)) #[] #[]] }, W1, gf,
    #[.func (.yield (w.heap.size + 1)) #[] #[]] ++ lb, W1, ?_, ?_, ?_, ?_, fun _ => by omega, ?_⟩
  · rw [← hW1, hrec]; exact run_enterLoop_outer _ _ _ _ _
  · simp only [resolve, hg]
    simp [go_sem]
  · intro f' _; trivial
  · simp [invoke, go_sem, eg]
  refine (hseq (w.heap.size + 1)
    (fun pre W => I pre W ∧ w.heap.size ≤ W.heap.size ∧ W.heap[w.heap.size + 1]? = some (.loop (rec .ready none)) ∧ W.heap[w.heap.size]? = some (.deferred (some [])))
    (fun pre W => ∃ c, Ix c pre W ∧ w.heap.size ≤ W.heap.size ∧ W.heap[w.heap.size + 1]? = some (.loop (rec .done (some c))) ∧ W.heap[w.heap.size]? = some (.deferred (some [])))
    W1 kW1 ?_ ?_ ?_ ⟨hI _ _ _ h0 (KB.of_keeps (kW1.sub (by simp)) (Nat.le_refl _)), kW1.size, hL1, hD1⟩).mono ?_
  · rintro pre A C ⟨h1, h2, h3, h4⟩ k
    exact ⟨hI _ _ _ h1 (KB.of_keeps k h2), Nat.le_trans h2 k.size, k.other h3 (hnL _ hFi _ (by omega)), k.other h4 (hnL _ hFi _ (by omega))⟩
  · rintro pre A C ⟨c, h1, h2, h3, h4⟩ k
    exact ⟨c, hIx _ _ _ _ h1 (KB.of_keeps k h2), Nat.le_trans h2 k.size, k.other h3 (hnL _ hFi _ (by omega)), k.other h4 (hnL _ hFi _ (by omega))⟩
  · rintro pre x W ⟨hi, hs, hl, hk⟩ hpr
    have hlt : w.heap.size + 1 < W.heap.size := (Array.getElem?_eq_some_iff.1 hl).1
    have hy := run_yield (P := P) (args := encs x) hl (by rw [hrec]; exact hps x)
    rw [hrec] at hy
    refine ⟨fn, _, assign, body, hy, roundIn_of_wpIn hfn (hassign _ x W _ ⟨_, run_beginRound hl (by rw [hrec]), ?_⟩)⟩
    obtain ⟨W2, hW2⟩ : ∃ W2, W.putObj (w.heap.size + 1) (.loop { rec .ready none with state := .busy }) = W2 := ⟨_, rfl⟩
    have k2 : ∀ F, KB w.heap.size F W W2 := fun F => by rw [← hW2]; exact KB.put (by omega) F W _
    have hl2 : W2.heap[w.heap.size + 1]? = some (.loop { rec .ready none with state := .busy }) := by rw [← hW2]; exact World.putObj_heap_same hlt
    have hk2 : W2.heap[w.heap.size]? = some (.deferred (some [])) := by rw [← hW2]; exact (World.putObj_heap_other (by omega)).trans hk
    have hp2 : Pr pre x W2 := by rw [← hW2]; exact hPr _ _ _ _ _ _ hpr hl rfl
    rw [hW2]
    refine wpIn_mono (hbody _ pre x W2 (by have := (k2 []).size; omega) (hI _ _ _ hi (k2 _)) hp2) ?_
    have fin : ∀ (jump : Option Code) (W3 : World), Keeps Fb W2 W3 → ∃ W4, (Instr.endRound (w.heap.size + 1) jump).run P W3 = .ok (.bool jump.isNone) W4 ∧ (∀ F, KB w.heap.size F W3 W4) ∧ KB w.heap.size Fb W W4 ∧
        W4.heap[w.heap.size + 1]? = some (.loop (rec (if jump.isNone then .ready else .done) jump)) ∧ W4.heap[w.heap.size]? = some (.deferred (some [])) := fun jump W3 k3 => by
      have hl3 := k3.other hl2 (hnL _ hFb _ (by omega))
      have hr := run_endRound (P := P) jump hl3
      have k34 : ∀ F, KB w.heap.size F W3 _ := fun F => KB.put (l := w.heap.size + 1) (by omega) F W3 (.loop { rec .ready none with state := if jump.isNone then .ready else .done, pending := jump })
      refine ⟨_, hr, k34, (k2 _).trans ((KB.of_keeps k3 (by have := (k2 []).size; omega)).trans (k34 _)), ?_, (World.putObj_heap_other (by omega)).trans (k3.other hk2 (hnL _ hFb _ (by omega)))⟩
      rw [hrec]
      exact World.putObj_heap_same (Array.getElem?_eq_some_iff.1 hl3).1
    have hsz : ∀ {W4}, KB w.heap.size Fb W W4 → w.heap.size ≤ W4.heap.size := fun k => Nat.le_trans hs k.size
    rintro e a3 W3 hp
    cases e with
    | normal =>
      obtain ⟨k3, hi3⟩ := hp
      obtain ⟨W4, hr, k34, k4, hl4, hk4⟩ := fin none W3 k3
      exact ⟨_, _, hr, k4, .inl ⟨rfl, hI _ _ _ hi3 (k34 _), hsz k4, hl4, hk4⟩⟩
    | ret =>
      obtain ⟨k3, hi3⟩ := hp
      obtain ⟨W4, hr, k34, k4, hl4, hk4⟩ := fin (some .ret) W3 k3
      exact ⟨_, _, hr, k4, .inr ⟨rfl, .ret, hIx _ _ _ _ hi3 (k34 _), hsz k4, hl4, hk4⟩⟩
    | exit id =>
      obtain ⟨k3, hi3⟩ := hp
      obtain ⟨W4, hr, k34, k4, hl4, hk4⟩ := fin (some (.exit id)) W3 k3
      exact ⟨_, _, hr, k4, .inr ⟨rfl, .exit id, hIx _ _ _ _ hi3 (k34 _), hsz k4, hl4, hk4⟩⟩
    | goto t =>
      obtain ⟨k3, hi3⟩ := hp
      obtain ⟨W4, hr, k34, k4, hl4, hk4⟩ := fin (some (.goto t)) W3 k3
      exact ⟨_, _, hr, k4, .inr ⟨rfl, .goto t, hIx _ _ _ _ hi3 (k34 _), hsz k4, hl4, hk4⟩⟩
    | panic ch => exact hp.elim
    | outgrown => exact hp.elim
  · rintro e W2 ⟨⟨v, rfl⟩, (⟨xs, hs, hi, _, hl, hk⟩ | ⟨pre, hs, c, hi, _, hl, hk⟩)⟩
    · have hr := run_endLoop (P := P) hl (by rw [hrec]; simp)
      have k4 : ∀ F, KB w.heap.size F W2 _ := fun F => KB.put (l := w.heap.size + 1) (by omega) F W2 (.loop { rec .ready none with state := .exhausted })
      refine ⟨none, _, by rw [hrec] at hr; exact hr, ?_⟩
      have := hdone w.heap.size xs _ (Nat.le_refl _) (hS _ _ _ hs (k4 _)) (hI _ _ _ hi (k4 _)) ((World.putObj_heap_other (by omega)).trans hk)
      rw [hrec] at this
      exact this
    · have hr := run_endLoop (P := P) hl (by rw [hrec]; simp)
      have k4 : ∀ F, KB w.heap.size F W2 _ := fun F => KB.put (l := w.heap.size + 1) (by omega) F W2 (.loop { rec .done (some c) with state := .exhausted })
      refine ⟨some c, _, by rw [hrec] at hr; exact hr, ?_⟩
      have := hstop w.heap.size c pre _ (Nat.le_refl _) (hSp _ _ _ hs (k4 _)) (hIx _ _ _ _ hi (k4 _)) ((World.putObj_heap_other (by omega)).trans hk)
      rw [hrec] at this
      exact wpIn_wide.2 this
theorem wp_rangeFunc2 {P : Program} {α : Type} {g : Operand} {ps : Array Tmp} {assign body : Code} {Q : Exit → Act → World → Prop} {a : Act} {w : World}
    {gf : Nat} {lb : Array Value} (hg : a.eval g = .func (.func gf) #[] lb) (eg : ∀ args w, (callFunc gf args).run P w = .ok (.enter gf args) w)
    {encs : α → Array Value} {Fi Fb : List Nat} {Pr : List α → α → World → Prop} {S Sp : List α → World → Prop} (hseq : Itr P gf lb encs w.heap.size Fi Fb Pr S Sp w)
    (hFi : ∀ x ∈ Fi, x < w.heap.size) (hFb : ∀ x ∈ Fb, x < w.heap.size) (hps : ∀ x, (encs x).size = ps.size)
    (hS : ∀ xs A C, S xs A → KB w.heap.size [] A C → S xs C) (hSp : ∀ xs A C, Sp xs A → KB w.heap.size [] A C → Sp xs C)
    (hPr : ∀ pre x A l o o', Pr pre x A → A.heap[l]? = some o → o.isCells = false → Pr pre x (A.putObj l o'))
    (I : List α → World → Prop) (Ix : Code → List α → World → Prop) (hI : ∀ pre A C, I pre A → KB w.heap.size Fi A C → I pre C) (hIx : ∀ c pre A C, Ix c pre A → KB w.heap.size Fi A C → Ix c pre C) (h0 : I [] w)
    (hround : ∀ (l : Nat) (pre : List α) (x : α) (W W2 : World), w.heap.size ≤ W2.heap.size → I pre W2 → Pr pre x W2 →
      assign.wpIn (Fence.wide.inRound l) 7 P (Exit.then (fun a₁ W' => W = W' ∧ body.wpIn (Fence.wide.inRound l) 7 P (rfPost Fb I Ix (pre ++ [x]) W2) a₁ W2) (fun _ _ _ => False))
        { tmps := (ps.zip (encs x)).foldl (fun t (p, v) => t.setIfInBounds p v) a.tmps, defers := [] } W)
    (hdone : ∀ (D : Nat) (xs : List α) (W : World), w.heap.size ≤ D → S xs W → I xs W → W.heap[D]? = some (.deferred (some [])) → Q .normal { a with defers := { target := .collected D, args := #[] } :: a.defers } W)
    (hstop : ∀ (D : Nat) (c : Code) (pre : List α) (W : World), w.heap.size ≤ D → Sp pre W → Ix c pre W → W.heap[D]? = some (.deferred (some [])) → c.wp P Q { a with defers := { target := .collected D, args := #[] } :: a.defers } W) :
    (Code.rangeFunc g ps assign body).wp P Q a w := by
  refine (wpIn_wide (n := 9)).1 (Go.wpIn_rangeFunc ?_)
  intro fn hfn
  obtain ⟨rec, hrec⟩ : ∃ rec : LoopState → Option Code → Loop, rec = fun st pe => { state := st, pending := pe, fn, tmps := a.tmps, params := ps, assign, body, defers := w.heap.size } := ⟨_, rfl⟩
  obtain ⟨W1, hW1⟩ : ∃ W1, (w.alloc (.deferred (some []))).alloc (.loop (rec .ready none)) = W1 := ⟨_, rfl⟩
  have kW1 : Keeps [] w W1 := by rw [← hW1]; exact (Keeps.alloc [] w _).alloc1 _
  have hD1 : W1.heap[w.heap.size]? = some (.deferred (some [])) := by
    rw [← hW1]
    exact (Below.heap_alloc _ _ _ (by simp)).trans (World.alloc_heap_new w _)
  have hL1 : W1.heap[w.heap.size + 1]? = some (.loop (rec .ready none)) := by
    rw [← hW1]
    have := World.alloc_heap_new (w.alloc (.deferred (some []))) (.loop (rec .ready none))
    rwa [World.size_alloc] at this
  have hnL : ∀ F : List Nat, (∀ x ∈ F, x < w.heap.size) → ∀ k, w.heap.size ≤ k → k ∉ F := fun F hF k hk hm => by have := hF k hm; omega
  refine ⟨w.heap.size + 1, [{ target := .collected w.heap.size, args := #[] }], W1, { target := .fn (.func gf) lb, args := #[.func (.yield (w.heap.size + 1)) #[] #[]] }, W1, gf,
    #[.func (.yield (w.heap.size + 1)) #[] #[]] ++ lb, W1, ?_, ?_, ?_, ?_, fun _ => by omega, ?_⟩
  · rw [← hW1, hrec]; exact run_enterLoop_outer _ _ _ _ _
  · simp only [resolve, hg]
    simp [go_sem]
  · intro f' _; trivial
  · simp [invoke, go_sem, eg]
  refine (hseq (w.heap.size + 1)
    (fun pre W => I pre W ∧ w.heap.size ≤ W.heap.size ∧ W.heap[w.heap.size + 1]? = some (.loop (rec .ready none)) ∧ W.heap[w.heap.size]? = some (.deferred (some [])))
    (fun pre W => ∃ c, Ix c pre W ∧ w.heap.size ≤ W.heap.size ∧ W.heap[w.heap.size + 1]? = some (.loop (rec .done (some c))) ∧ W.heap[w.heap.size]? = some (.deferred (some [])))
    W1 kW1 ?_ ?_ ?_ ⟨hI _ _ _ h0 (KB.of_keeps (kW1.sub (by simp)) (Nat.le_refl _)), kW1.size, hL1, hD1⟩).mono ?_
  · rintro pre A C ⟨h1, h2, h3, h4⟩ k
    exact ⟨hI _ _ _ h1 (KB.of_keeps k h2), Nat.le_trans h2 k.size, k.other h3 (hnL _ hFi _ (by omega)), k.other h4 (hnL _ hFi _ (by omega))⟩
  · rintro pre A C ⟨c, h1, h2, h3, h4⟩ k
    exact ⟨c, hIx _ _ _ _ h1 (KB.of_keeps k h2), Nat.le_trans h2 k.size, k.other h3 (hnL _ hFi _ (by omega)), k.other h4 (hnL _ hFi _ (by omega))⟩
  · rintro pre x W ⟨hi, hs, hl, hk⟩ hpr
    have hlt : w.heap.size + 1 < W.heap.size := (Array.getElem?_eq_some_iff.1 hl).1
    have hy := run_yield (P := P) (args := encs x) hl (by rw [hrec]; exact hps x)
    rw [hrec] at hy
    obtain ⟨W2, hW2⟩ : ∃ W2, W.putObj (w.heap.size + 1) (.loop { rec .ready none with state := .busy }) = W2 := ⟨_, rfl⟩
    have k2 : ∀ F, KB w.heap.size F W W2 := fun F => by rw [← hW2]; exact KB.put (by omega) F W _
    have hl2 : W2.heap[w.heap.size + 1]? = some (.loop { rec .ready none with state := .busy }) := by rw [← hW2]; exact World.putObj_heap_same hlt
    have hk2 : W2.heap[w.heap.size]? = some (.deferred (some [])) := by rw [← hW2]; exact (World.putObj_heap_other (by omega)).trans hk
    have hp2 : Pr pre x W2 := by rw [← hW2]; exact hPr _ _ _ _ _ _ hpr hl rfl
    refine ⟨fn, _, assign, body, hy, roundIn_of_wpIn hfn (wpIn_mono (hround _ pre x W W2 (by have := (k2 []).size; omega) (hI _ _ _ hi (k2 _)) hp2) ?_)⟩
    intro e1 a1 W' h1
    cases e1 <;> first | exact h1.elim | skip
    obtain ⟨rfl, hbody⟩ := h1
    refine ⟨W2, by rw [← hW2]; exact run_beginRound hl (by rw [hrec]), wpIn_mono hbody ?_⟩
    have fin : ∀ (jump : Option Code) (W3 : World), Keeps Fb W2 W3 → ∃ W4, (Instr.endRound (w.heap.size + 1) jump).run P W3 = .ok (.bool jump.isNone) W4 ∧ (∀ F, KB w.heap.size F W3 W4) ∧ KB w.heap.size Fb W W4 ∧
        W4.heap[w.heap.size + 1]? = some (.loop (rec (if jump.isNone then .ready else .done) jump)) ∧ W4.heap[w.heap.size]? = some (.deferred (some [])) := fun jump W3 k3 => by
      have hl3 := k3.other hl2 (hnL _ hFb _ (by omega))
      have hr := run_endRound (P := P) jump hl3
      have k34 : ∀ F, KB w.heap.size F W3 _ := fun F => KB.put (l := w.heap.size + 1) (by omega) F W3 (.loop { rec .ready none with state := if jump.isNone then .ready else .done, pending := jump })
      refine ⟨_, hr, k34, (k2 _).trans ((KB.of_keeps k3 (by have := (k2 []).size; omega)).trans (k34 _)), ?_, (World.putObj_heap_other (by omega)).trans (k3.other hk2 (hnL _ hFb _ (by omega)))⟩
      rw [hrec]
      exact World.putObj_heap_same (Array.getElem?_eq_some_iff.1 hl3).1
    have hsz : ∀ {W4}, KB w.heap.size Fb W W4 → w.heap.size ≤ W4.heap.size := fun k => Nat.le_trans hs k.size
    rintro e a3 W3 hp
    cases e with
    | normal =>
      obtain ⟨k3, hi3⟩ := hp
      obtain ⟨W4, hr, k34, k4, hl4, hk4⟩ := fin none W3 k3
      exact ⟨_, _, hr, k4, .inl ⟨rfl, hI _ _ _ hi3 (k34 _), hsz k4, hl4, hk4⟩⟩
    | ret =>
      obtain ⟨k3, hi3⟩ := hp
      obtain ⟨W4, hr, k34, k4, hl4, hk4⟩ := fin (some .ret) W3 k3
      exact ⟨_, _, hr, k4, .inr ⟨rfl, .ret, hIx _ _ _ _ hi3 (k34 _), hsz k4, hl4, hk4⟩⟩
    | exit id =>
      obtain ⟨k3, hi3⟩ := hp
      obtain ⟨W4, hr, k34, k4, hl4, hk4⟩ := fin (some (.exit id)) W3 k3
      exact ⟨_, _, hr, k4, .inr ⟨rfl, .exit id, hIx _ _ _ _ hi3 (k34 _), hsz k4, hl4, hk4⟩⟩
    | goto t =>
      obtain ⟨k3, hi3⟩ := hp
      obtain ⟨W4, hr, k34, k4, hl4, hk4⟩ := fin (some (.goto t)) W3 k3
      exact ⟨_, _, hr, k4, .inr ⟨rfl, .goto t, hIx _ _ _ _ hi3 (k34 _), hsz k4, hl4, hk4⟩⟩
    | panic ch => exact hp.elim
    | outgrown => exact hp.elim
  · rintro e W2 ⟨⟨v, rfl⟩, (⟨xs, hs, hi, _, hl, hk⟩ | ⟨pre, hs, c, hi, _, hl, hk⟩)⟩
    · have hr := run_endLoop (P := P) hl (by rw [hrec]; simp)
      have k4 : ∀ F, KB w.heap.size F W2 _ := fun F => KB.put (l := w.heap.size + 1) (by omega) F W2 (.loop { rec .ready none with state := .exhausted })
      refine ⟨none, _, by rw [hrec] at hr; exact hr, ?_⟩
      have := hdone w.heap.size xs _ (Nat.le_refl _) (hS _ _ _ hs (k4 _)) (hI _ _ _ hi (k4 _)) ((World.putObj_heap_other (by omega)).trans hk)
      rw [hrec] at this
      exact this
    · have hr := run_endLoop (P := P) hl (by rw [hrec]; simp)
      have k4 : ∀ F, KB w.heap.size F W2 _ := fun F => KB.put (l := w.heap.size + 1) (by omega) F W2 (.loop { rec .done (some c) with state := .exhausted })
      refine ⟨some c, _, by rw [hrec] at hr; exact hr, ?_⟩
      have := hstop w.heap.size c pre _ (Nat.le_refl _) (hSp _ _ _ hs (k4 _)) (hIx _ _ _ _ hi (k4 _)) ((World.putObj_heap_other (by omega)).trans hk)
      rw [hrec] at this
      exact wpIn_wide.2 this
/-- How such a function's body may be left: never by a panic. -/
def postM (P : Program) (fn : Func) (R : Ending → World → Prop) : Exit → Act → World → Prop
  | .normal, a, w => bodyPostM Fence.wide 9 P fn R .normal a w
  | .ret, a, w => bodyPostM Fence.wide 9 P fn R .ret a w
  | _, _, _ => False
/-- A function's contract from its body, where the body holds a range over a function. -/
theorem calls_of_marks {P : Program} {f : FuncId} {fn : Func} {c : Code} {args : Array Value} {w : World} {R : Ending → World → Prop} (hf : P.funcs[f]? = some fn) (hb : fn.body = some c)
    (h : c.wp P (postM P fn R) { tmps := args ++ Array.replicate (fn.ntmps - args.size) undef, defers := [] } w) : Calls P f args w R := by
  refine (callsIn_wide (n := 9)).1 (callsIn_of_wp_marks hf hb trivial (wpIn_wide.2 (wp_mono h ?_)) rfl)
  intro e a w' hq
  cases e <;> first | exact hq | exact hq.elim
/-- One call of a Go function as a step of a region that draws its order. -/
theorem stepCall {P : Program} {ops : Array Oper} {o : Oper} {a : Act} {w : World} {Q : Exit → Act → World → Prop} {E : Prop} {K : Act → World → Prop} {f : FuncId} {args : Array Value} {Post : Ending → World → Prop} {fn : Func} (hc : Calls P f args w Post) (hf : P.funcs[f]? = some fn)
    (hb : (fn.name == "runtime.NumGoroutine") = false ∧ fn.body.isNone = false) (xs : Array Operand) (tys : Array TypeId) (ho : o.op = .call { callee := .value (.func f), args := xs, argTypes := tys }) (hg : Region.wanted o (yielded ops a.tmps) = true) (hargs : xs.toList.map a.eval = args.toList)
    (hp : ∀ e w', Post e w' → ∃ v, e = .returned v ∧ K (a.put o.dst v) w') : if Region.wanted o (yielded ops a.tmps) = true then Oper.wp P o a w K Q else E := by
  rw [if_pos hg]
  unfold Oper.wp
  have hrun : (execOp a.eval o).run P w = .ok (.enter f args) w := by
    obtain ⟨dst, op, ty, pos, after, guard⟩ := o
    dsimp only at ho
    subst ho
    have hargs' : #[] ++ xs.map a.eval ++ #[] = args := by
      apply Array.ext'
      simpa using hargs
    rw [execOp_call_go, hargs']
    unfold callFunc
    have n1 : fn.name ≠ "runtime.NumGoroutine" := by simpa using hb.1
    have n2 : fn.body ≠ none := by
      intro e
      rw [e] at hb
      simp at hb
    simp [go_sem, hf, n1, n2]
  rw [hrun, Oper.upon_enter]
  refine hc.mono ?_
  intro e w' h
  obtain ⟨v, rfl, hk⟩ := hp e w' h
  exact hk
end Go.Proofs.Ytcmoldondflilaa.Q
