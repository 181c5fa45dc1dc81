/- The document's reader of layer 6: its state in memory, and its small methods. -/
import Derived.Test.YtcmoldondflilaaDia
import Derived.Test.YtcmoldondflilaaKeep
import Derived.Test.YtcmoldondflilaaRdrPlain
import Derived.Outline
import Derived.Deep.QuietTactic
import Derived.BigQuiet
import Derived.Deep.RegionLaw
import Derived.BigRegion
namespace Go.Proofs.Ytcmoldondflilaa.Rdr
set_option linter.unusedVariables false
set_option linter.unusedSimpArgs false
set_option maxRecDepth 100000
open Go.RowKit Q Mach Dia Gram
attribute [local go_sem ↓] Go.wp_at_zero Go.wp_at_succ

theorem stepApp {P : Program} {ops : Array Oper} {o : Oper} {a : Act} {w w' : World} {Q : Exit → Act → World → Prop} {E : Prop} {K : Act → World → Prop} {t u ty : TypeId} {v v' x : Value} (hrun : (Builtin.append_ #[t, u] ty #[v, x]).run P w = .ok v' w') (s y : Operand) (ho : o.op = .call { callee := .builtin .append, args := #[s, y], argTypes := #[t, u] }) (hty : o.type = ty)
    (hg : Region.wanted o (yielded ops a.tmps) = true) (hs : a.eval s = v) (hy : a.eval y = x) (hh : K (a.put o.dst v') w') : if Region.wanted o (yielded ops a.tmps) = true then Oper.wp P o a w K Q else E := by
  rw [if_pos hg]
  subst hty
  unfold Oper.wp execOp
  simp only [ho, resolve, invoke, builtin, Sem.run_bind, Sem.run_pure, Result.andThen_ok, List.map_toArray, List.map_cons, List.map_nil, hs, hy, hrun]
  exact hh

/-- The reader's state. -/
structure R6 where
  i : Nat
  begun : Nat
  row : Row
  recs : Tb
  ends : List Nat
  kind : Nat
  pl : Nat
def R6.wr (st : R6) (k p : Nat) : R6 := { st with kind := k, pl := p }
def limC (l : Lim) : Int := if l.uniform then 1 else 0
def r6C (d : Dia) (l : Lim) (s : Bs) (st : R6) (vr vR vE : Value) : List Value :=
  [.int .i64 d.delim.toNat, .int .i64 d.quote.toNat, .int .i64 d.fin, .int .i64 l.field, .int .i64 l.fields, .int .i64 l.records, .int .i64 (limC l), sv s, .int .i64 st.i, .int .i64 st.begun, vr, vR, vE, .int .i64 st.kind, .int .i64 st.pl]
/-- The reader at block g. -/
structure RP (w : World) (base g : Nat) (d : Dia) (l : Lim) (s : Bs) (st : R6) (vr vR : Value) (vs : List Value) (vE : Value) : Prop where
  blk : Blk w g 119 (r6C d l s st vr vR vE)
  low : base ≤ g
  row : Own w base 9 1 vr st.row.length (st.row.map sv)
  recs : OTb w base 24 9 vR vs st.recs
  ends : Own w base 3 1 vE st.ends.length (st.ends.map fun (n : Nat) => Value.int .i64 (n : Int))
  ap : ∀ x ∈ blkOf vr, x ∉ vs.flatMap blkOf
def RAt (w : World) (base g : Nat) (d : Dia) (l : Lim) (s : Bs) (st : R6) : Prop := ∃ vr vR vs vE, RP w base g d l s st vr vR vs vE
section rp
variable {w w' : World} {base g : Nat} {d : Dia} {l : Lim} {s : Bs} {st st' : R6} {vr vR vE : Value} {vs : List Value}
theorem RP.c (h : RP w base g d l s st vr vR vs vE) {i : Nat} {u : Value} (hi : (r6C d l s st vr vR vE)[i]? = some u) : w.cell? ⟨g, i, none⟩ = some u := h.blk.cell_of hi
theorem RP.f (h : RP w base g d l s st vr vR vs vE) {i : Nat} (hi : i < 15) : w.frozen? ⟨g, i, none⟩ = false := h.blk.frozen (by simpa [r6C] using hi)
theorem RP.rowG (h : RP w base g d l s st vr vR vs vE) : ∀ x ∈ blkOf vr, x ≠ g := h.row.apartBlk h.blk (by decide)
theorem RP.endG (h : RP w base g d l s st vr vR vs vE) : ∀ x ∈ blkOf vE, x ≠ g := h.ends.apartBlk h.blk (by decide)
theorem RP.recG (h : RP w base g d l s st vr vR vs vE) : ∀ x ∈ tblks vR vs, x ≠ g := by
  intro x hx
  simp only [tblks, List.mem_append, List.mem_flatMap] at hx
  rcases hx with hx | ⟨u, hu, hx⟩
  · exact h.recs.2.1.apartBlk h.blk (by decide) x hx
  · obtain ⟨i, hi, rfl⟩ := List.getElem_of_mem hu
    have hl := h.recs.1
    exact (h.recs.2.2 i _ _ (List.getElem?_eq_getElem hi) (List.getElem?_eq_getElem (by omega))).apartBlk h.blk (by decide) x hx
theorem RP.rowsOff (h : RP w base g d l s st vr vR vs vE) : ∀ x ∈ vs.flatMap blkOf, x ∉ blkOf vR ∧ x ∉ blkOf vE := by
  intro x hx
  simp only [List.mem_flatMap] at hx
  obtain ⟨u, hu, hx⟩ := hx
  obtain ⟨i, hi, rfl⟩ := List.getElem_of_mem hu
  have hl := h.recs.1
  have ho := h.recs.2.2 i _ _ (List.getElem?_eq_getElem hi) (List.getElem?_eq_getElem (by omega))
  exact ⟨ho.apart h.recs.2.1 (by decide) x hx, ho.apart h.ends (by decide) x hx⟩
theorem RP.keep (h : RP w base g d l s st vr vR vs vE) (k : Keeps [] w w') : RP w' base g d l s st vr vR vs vE :=
  ⟨h.blk.keep k (by simp), h.low, h.row.keep k (by simp), h.recs.keep k (by simp), h.ends.keep k (by simp), h.ap⟩
theorem RAt.keep (h : RAt w base g d l s st) (k : Keeps [] w w') : RAt w' base g d l s st := by obtain ⟨vr, vR, vs, vE, h⟩ := h; exact ⟨vr, vR, vs, vE, h.keep k⟩
theorem RAt.lt (h : RAt w base g d l s st) : base ≤ g ∧ g < w.heap.size := by obtain ⟨vr, vR, vs, vE, h⟩ := h; exact ⟨h.low, h.blk.lt⟩
/-- One of the reader's numbers is stored. -/
theorem RP.set (h : RP w base g d l s st vr vR vs vE) (j : Nat) (u : Value) (hj : (r6C d l s st vr vR vE).set j u = r6C d l s st' vr vR vE) (h1 : st'.row = st.row) (h2 : st'.recs = st.recs) (h3 : st'.ends = st.ends) : RP (w.setCell ⟨g, j, none⟩ u) base g d l s st' vr vR vs vE := by
  have k := Keeps.setCell w ⟨g, j, none⟩ u
  refine ⟨?_, h.low, ?_, ?_, ?_, h.ap⟩
  · have := h.blk.set_ j u
    rwa [hj] at this
  · rw [h1]; exact h.row.keep k (fun x hx hm => by simp at hm; exact h.rowG x hx hm)
  · rw [h2]; exact h.recs.keep k (fun x hx hm => by simp at hm; exact h.recG x hx hm)
  · rw [h3]; exact h.ends.keep k (fun x hx hm => by simp at hm; exact h.endG x hx hm)
theorem RP.below (h : RP w base g d l s st vr vR vs vE) (j : Nat) (u : Value) : Below base w (w.setCell ⟨g, j, none⟩ u) := (Below.refl base w).setCell (p := ⟨g, j, none⟩) h.low u
end rp
def Post (base g : Nat) (d : Dia) (l : Lim) (s : Bs) (st : R6) (w w' : World) : Prop := RAt w' base g d l s st ∧ Below base w w'
theorem Post.refl {w : World} {base g : Nat} {d : Dia} {l : Lim} {s : Bs} {st : R6} (h : RAt w base g d l s st) : Post base g d l s st w w := ⟨h, Below.refl _ _⟩

section small
variable (w : World) (base g : Nat) (d : Dia) (l : Lim) (s : Bs) (st : R6) (hs : s.length ≤ 100000)
set_option maxHeartbeats 1000000 in
theorem is_c (h : RAt w base g d l s st) (hs : s.length ≤ 100000) (hi : st.i ≤ 100002) (b : UInt8) (c : Int) (hc : (b.toNat : Int) = c) :
    Calls Try.prog 68 #[.pointer (some ⟨g, 0, none⟩), .int .i64 c] w fun r w' => r = .returned (.bool (atB s st.i b)) ∧ ∃ m, w' = w.drewN m := by
  obtain ⟨vr, vR, vs, vE, h⟩ := h
  have c7 := h.c (i := 7) rfl
  have c8 := h.c (i := 8) rfl
  subst hc
  clear h
  generalize st.i = i at *
  by_cases hlt : i < s.length
  · have hd : decide ((i : Int) < (s.length : Int)) = true := by simp; omega
    have hd2 : decide (i < s.length) = true := by simp; omega
    have hi' := str_idx (P := Try.prog) Try.underlying9 s i s[i] (List.getElem?_eq_getElem hlt)
    have hq := u8_beq s[i] b
    have hk0 : (0 : Int) ≤ (i : Int) := by omega
    have hkl : (i : Int) < (s.length : Int) := by omega
    have hw := wrap_u8 s[i]
    have HW := IntWalk.i64_in (s[i].toNat : Int) (by omega)
    have HR : Hid (atB s i b = (s[i] == b)) := Lib.hid (by unfold atB; rw [List.getElem?_eq_getElem hlt]; simp)
    generalize atB s i b = res at *
    generalize s[i] = y at *
    obtain ⟨e, he⟩ : ∃ e, (y == b) = e := ⟨_, rfl⟩
    rw [he] at hq
    have HE := Lib.hid he
    clear he
    go_enter Try.func68, Try.ntmps68
    go_wp2_with (fail)
    go_quiet (fail)
    go_wp2_with (fail)
    go_ret
    exact ⟨ret_bool (by rw [HR.out, HE.out]), _, rfl⟩
  · have hd : decide ((i : Int) < (s.length : Int)) = false := by simp; omega
    have hd2 : decide (i < s.length) = false := by simp; omega
    have HR : Hid (atB s i b = false) := Lib.hid (by unfold atB; rw [List.getElem?_eq_none (by omega)]; rfl)
    generalize atB s i b = res at *
    go_enter Try.func68, Try.ntmps68
    go_wp2_with (fail)
    go_quiet (fail)
    go_wp2_with (fail)
    go_ret
    exact ⟨ret_bool (by rw [HR.out]), _, rfl⟩
set_option maxHeartbeats 1000000 in
theorem wrong_c (h : RAt w base g d l s st) (hk : st.kind = 0) (k p : Nat) (K P : Int) (hK : (k : Int) = K) (hP : (p : Int) = P) :
    Calls Try.prog 78 #[.pointer (some ⟨g, 0, none⟩), .int .i64 K, .int .i64 P] w fun r w' => r = .returned (.bool false) ∧ Post base g d l s (st.wr k p) w w' := by
  obtain ⟨vr, vR, vs, vE, h⟩ := h
  subst hK hP
  have c13 := h.c (i := 13) rfl
  have c14 := h.c (i := 14) rfl
  have f13 := h.f (i := 13) (by omega)
  have f14 := h.f (i := 14) (by omega)
  have hkk : ((st.kind : Int) == 0) = true := by rw [hk]; rfl
  have H1 := h.set (st' := { st with kind := k }) 13 (.int .i64 k) rfl rfl rfl rfl
  have H2 := Lib.hid (H1.set (st' := st.wr k p) 14 (.int .i64 p) rfl rfl rfl rfl)
  have H3 := Lib.hid ((h.below 13 (.int .i64 k)).trans (H1.below 14 (.int .i64 p)))
  clear h H1 hk
  go_enter Try.func78, Try.ntmps78
  go_wp2_with (fail)
  go_ret
  exact ⟨rfl, ⟨_, _, _, _, H2.out⟩, H3.out⟩
/-- An end of line at the place: its length. -/
def feedP (d : Dia) (s : Bs) (st : R6) : R6 × Nat :=
  if atB s st.i 10 then (if d.fin == 2 then (st.wr 6 st.i, 0) else (st, 1)) else if d.fin == 1 then (st.wr 6 st.i, 0) else (st, 2)
set_option maxHeartbeats 1000000 in
theorem feed_c (h : RAt w base g d l s st) (hs : s.length ≤ 100000) (hi : st.i ≤ 100002) (hk : st.kind = 0) :
    Calls Try.prog 69 #[.pointer (some ⟨g, 0, none⟩)] w fun r w' => r = .returned (.int .i64 (feedP d s st).2) ∧ Post base g d l s (feedP d s st).1 w w' := by
  have HI := Lib.hid (is_c w base g d l s st h hs hi 10 10 rfl)
  have HD := Lib.hid (fun m => h.keep (Keeps.drewN [] w m))
  have HWR := Lib.hid (fun m => wrong_c (w.drewN m) base g d l s st (HD.out m) hk 6 st.i 6 st.i rfl rfl)
  have hl := h.lt
  obtain ⟨vr, vR, vs, vE, h'⟩ := h
  have c2 := h'.c (i := 2) rfl
  have c8 := h'.c (i := 8) rfl
  clear h'
  unfold feedP
  generalize atB s st.i 10 = e at *
  obtain ⟨z2, hz2⟩ : ∃ z2, (d.fin == 2) = z2 := ⟨_, rfl⟩
  obtain ⟨z1, hz1⟩ : ∃ z1, (d.fin == 1) = z1 := ⟨_, rfl⟩
  rw [hz1, hz2]
  cases e
  · cases z1
    · go_enter Try.func69, Try.ntmps69
      go_wp2_with (fail)
      refine HI.out.mono ?_
      rintro r w1 ⟨rfl, m, rfl⟩
      go_wp2_with (fail)
      go_ret
      exact ⟨rfl, HD.out m, below_of_drewN _ _ _⟩
    · go_enter Try.func69, Try.ntmps69
      go_wp2_with (fail)
      refine HI.out.mono ?_
      rintro r w1 ⟨rfl, m, rfl⟩
      go_wp2_with (fail)
      refine (HWR.out m).mono ?_
      rintro r w2 ⟨rfl, hp⟩
      go_wp2_with (fail)
      go_ret
      exact ⟨rfl, hp.1, (below_of_drewN _ _ _).trans hp.2⟩
  · cases z2
    · go_enter Try.func69, Try.ntmps69
      go_wp2_with (fail)
      refine HI.out.mono ?_
      rintro r w1 ⟨rfl, m, rfl⟩
      go_wp2_with (fail)
      go_ret
      exact ⟨rfl, HD.out m, below_of_drewN _ _ _⟩
    · go_enter Try.func69, Try.ntmps69
      go_wp2_with (fail)
      refine HI.out.mono ?_
      rintro r w1 ⟨rfl, m, rfl⟩
      go_wp2_with (fail)
      refine (HWR.out m).mono ?_
      rintro r w2 ⟨rfl, hp⟩
      go_wp2_with (fail)
      go_ret
      exact ⟨rfl, hp.1, (below_of_drewN _ _ _).trans hp.2⟩
def secP (s : Bs) (st : R6) : R6 × Bool := if atB s (st.i + 1) 10 then (st, true) else (st.wr 6 (st.i + 1), false)
set_option maxHeartbeats 1000000 in
theorem second_c (h : RAt w base g d l s st) (hs : s.length ≤ 100000) (hi : st.i ≤ 100002) (hk : st.kind = 0) :
    Calls Try.prog 70 #[.pointer (some ⟨g, 0, none⟩)] w fun r w' => r = .returned (.bool (secP s st).2) ∧ Post base g d l s (secP s st).1 w w' ∧ ((secP s st).2 = true → ∃ m, w' = w.drewN m) := by
  have HD := Lib.hid (fun m => h.keep (Keeps.drewN [] w m))
  have HWR := Lib.hid (fun m => wrong_c (w.drewN m) base g d l s st (HD.out m) hk 6 (st.i + 1) 6 ((st.i : Int) + 1) rfl rfl)
  obtain ⟨vr, vR, vs, vE, h'⟩ := h
  have c7 := h'.c (i := 7) rfl
  have c8 := h'.c (i := 8) rfl
  clear h'
  unfold secP
  have hwi : IntKind.i64.wrap ((st.i : Int) + 1) = (st.i : Int) + 1 := IntWalk.i64_in _ (by omega)
  by_cases hlt : st.i + 1 < s.length
  · have hd : decide ((s.length : Int) ≤ (st.i : Int) + 1) = false := by simp; omega
    have hi' : ∀ w, (Instr.index 9 (.string ⟨s.toArray⟩) (.int .i64 ((st.i : Int) + 1))).run Try.prog w = .ok (bv s[st.i + 1]) w := str_idx (P := Try.prog) Try.underlying9 s (st.i + 1) s[st.i + 1] (List.getElem?_eq_getElem hlt)
    have hk0 : (0 : Int) ≤ (st.i : Int) + 1 := by omega
    have hkl : (st.i : Int) + 1 < (s.length : Int) := by omega
    have h10 := u8_10 s[st.i + 1]
    have h10' : ((s[st.i + 1].toNat : Int) != 10) = !(s[st.i + 1] == 10) := by rw [bne, h10]
    have HR : (atB s (st.i + 1) 10 = (s[st.i + 1] == 10)) := by unfold atB; rw [List.getElem?_eq_getElem hlt]; simp
    rw [HR]
    clear HR
    generalize s[st.i + 1] = y at *
    cases hy : (y == 10)
    · rw [hy] at h10 h10'
      go_enter Try.func70, Try.ntmps70
      go_wp2_with (fail)
      go_quiet (fail)
      clear hwi
      go_wp2_with (fail)
      refine (HWR.out _).mono ?_
      rintro r w2 ⟨rfl, hp⟩
      go_wp2_with (fail)
      go_ret
      first | exact ⟨rfl, hp.1, (below_of_drewN _ _ _).trans hp.2⟩ | exact ⟨rfl, ⟨hp.1, (below_of_drewN _ _ _).trans hp.2⟩, fun h => absurd h (by simp)⟩
    · rw [hy] at h10 h10'
      go_enter Try.func70, Try.ntmps70
      go_wp2_with (fail)
      go_quiet (fail)
      clear hwi
      go_wp2_with (fail)
      go_ret
      first | exact ⟨rfl, ⟨HD.out _, below_of_drewN _ _ _⟩, ⟨_, rfl⟩⟩ | exact ⟨rfl, ⟨HD.out _, below_of_drewN _ _ _⟩, fun _ => ⟨_, rfl⟩⟩ | exact ⟨rfl, HD.out _, below_of_drewN _ _ _⟩
  · have hd : decide ((s.length : Int) ≤ (st.i : Int) + 1) = true := by simp; omega
    have HR : (atB s (st.i + 1) 10 = false) := by unfold atB; rw [List.getElem?_eq_none (by omega)]; rfl
    rw [HR]
    clear HR
    go_enter Try.func70, Try.ntmps70
    go_wp2_with (fail)
    go_quiet (fail)
    clear hwi
    go_wp2_with (fail)
    refine (HWR.out _).mono ?_
    rintro r w2 ⟨rfl, hp⟩
    go_wp2_with (fail)
    go_ret
    first | exact ⟨rfl, hp.1, (below_of_drewN _ _ _).trans hp.2⟩ | exact ⟨rfl, ⟨hp.1, (below_of_drewN _ _ _).trans hp.2⟩, fun h => absurd h (by simp)⟩
end small
end Go.Proofs.Ytcmoldondflilaa.Rdr
