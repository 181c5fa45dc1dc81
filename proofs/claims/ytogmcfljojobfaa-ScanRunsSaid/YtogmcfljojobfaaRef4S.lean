/- The document's Step: its table, row by row. -/
import Derived.Test.YtogmcfljojobfaaRef4T
import Derived.Test.YtogmcfljojobfaaKeep
import Derived.Deep.MidRow
import Derived.Deep.CutBlock
namespace Go.Proofs.Ytogmcfljojobfaa.Q
set_option linter.unusedVariables false
open Go.RowKit
theorem wpList_val {P : Program} {ops : Array Oper} {rest : List Oper} {o : Oper} {a : Act} {w : World} {Q : Exit → Act → World → Prop} (v' : Value) (w' : World) (hrun : (execOp a.eval o).run P w = .ok (.value v') w') (hg : o.guard = none) (h : wpList P ops Q rest (a.put o.dst v') w') : wpList P ops Q (o :: rest) a w :=
  wpList_plain hg fun K hK => by
    unfold Oper.wp
    rw [hrun]
    exact hK _ _ h
theorem keep6 {w wc : World} {g : Nat} (k : Keeps [] w wc) (o1 o2 : Obj) (v0 v1 v2 v3 v4 v5 : Value) (hg : w.heap.size ≤ g) :
    Keeps [] w ((((((((((wc.alloc o1).alloc o2).drew).setCell ⟨g, 0, none⟩ v0).setCell ⟨g, 1, none⟩ v1).setCell ⟨g, 2, none⟩ v2).setCell ⟨g, 3, none⟩ v3).setCell ⟨g, 4, none⟩ v4).setCell ⟨g, 5, none⟩ v5)) :=
  (((((((((k.alloc1 o1).alloc1 o2).drew1).setNew _ _ hg).setNew _ _ hg).setNew _ _ hg).setNew _ _ hg).setNew _ _ hg).setNew _ _ hg)
theorem Blk.range {w : World} {g : Nat} {e : TypeId} {cs : List Value} (h : Blk w g e cs) : w.rangeAt g 0 cs := fun j v hv => by
  rw [Nat.zero_add]
  exact h.cell_of hv
theorem Blk.there {w : World} {g : Nat} {e : TypeId} {cs : List Value} (h : Blk w g e cs) : w.there g 0 cs.length := fun j hj => by
  rw [Nat.zero_add]
  refine ⟨?_, h.frozen hj⟩
  rw [h.cell j, List.getElem?_eq_getElem hj]
  rfl
theorem Blk.setCells {w : World} {g : Nat} {e : TypeId} : ∀ (ds pre cs : List Value), Blk w g e (pre ++ cs) → ds.length = cs.length → Blk (w.setCells g pre.length ds) g e (pre ++ ds) ∧ Keeps [g] w (w.setCells g pre.length ds)
  | [], pre, cs, h, hl => by
    obtain rfl : cs = [] := List.eq_nil_of_length_eq_zero hl.symm
    exact ⟨h, Keeps.refl _ _⟩
  | d :: ds, pre, [], h, hl => by simp at hl
  | d :: ds, pre, c :: cs, h, hl => by
    have h1 := h.set_ pre.length d
    rw [List.set_append_right _ _ (Nat.le_refl _), Nat.sub_self, List.set_cons_zero] at h1
    have h2 : Blk (w.setCell ⟨g, pre.length, none⟩ d) g e ((pre ++ [d]) ++ cs) := by simpa using h1
    obtain ⟨h3, h4⟩ := Blk.setCells ds (pre ++ [d]) cs h2 (by simpa using hl)
    rw [List.length_append, List.length_singleton] at h3 h4
    refine ⟨by simpa [World.setCells] using h3, ?_⟩
    exact (Keeps.setCell w ⟨g, pre.length, none⟩ d).trans h4 (fun _ h _ => h)
theorem Blk.setAll {w : World} {g : Nat} {e : TypeId} {cs : List Value} (h : Blk w g e cs) (ds : List Value) (hl : ds.length = cs.length) : Blk (w.setCells g 0 ds) g e ds ∧ Keeps [g] w (w.setCells g 0 ds) := by
  simpa using Blk.setCells ds [] cs (by simpa using h) hl
end Go.Proofs.Ytogmcfljojobfaa.Q
namespace Go.Proofs.Ytogmcfljojobfaa.Ref4
set_option linter.unusedVariables false
set_option linter.unusedSimpArgs false
open Go.RowKit Q Mach Dia Scan
attribute [local go_sem ↓] Go.wp_at_zero Go.wp_at_succ

def z35 : List Value := List.replicate 35 (.int .i64 0)
/-- The table's rows: begin, add, field, line, record, next, error. -/
def tab (st : Nat) : List (List Int) :=
  match st with
  | 0 => [[1, 0, 0, 0, 0, 3, 0], [1, 0, 1, 0, 0, 1, 0], [0, 0, 0, 0, 0, 6, 0], [0, 0, 0, 0, 0, 0, 0], [1, 1, 0, 0, 0, 2, 0]]
  | 1 => [[0, 0, 0, 0, 0, 3, 0], [0, 0, 1, 0, 0, 1, 0], [0, 0, 0, 1, 0, 5, 0], [0, 0, 0, 1, 1, 0, 0], [0, 1, 0, 0, 0, 2, 0]]
  | 2 => [[0, 0, 0, 0, 0, 0, 4], [0, 0, 1, 0, 0, 1, 0], [0, 0, 0, 1, 0, 5, 0], [0, 0, 0, 1, 1, 0, 0], [0, 1, 0, 0, 0, 2, 0]]
  | 3 => [[0, 0, 0, 0, 0, 4, 0], [0, 1, 0, 0, 0, 3, 0], [0, 1, 0, 0, 0, 3, 0], [0, 1, 0, 0, 0, 3, 0], [0, 1, 0, 0, 0, 3, 0]]
  | 4 => [[0, 1, 0, 0, 0, 3, 0], [0, 0, 1, 0, 0, 1, 0], [0, 0, 0, 1, 0, 5, 0], [0, 0, 0, 1, 1, 0, 0], [0, 0, 0, 0, 0, 0, 5]]
  | 5 => [[0, 0, 0, 0, 0, 0, 6], [0, 0, 0, 0, 0, 0, 6], [0, 0, 0, 0, 0, 0, 6], [0, 0, 0, 0, 1, 0, 0], [0, 0, 0, 0, 0, 0, 6]]
  | _ => [[0, 0, 0, 0, 0, 0, 6], [0, 0, 0, 0, 0, 0, 6], [0, 0, 0, 0, 0, 0, 6], [0, 0, 0, 0, 0, 0, 0], [0, 0, 0, 0, 0, 0, 6]]
def badEnd (d : Dia) (st : Nat) (b : UInt8) : Bool := st != 3 && decide (st < 5) && (col d b == 2 && d.fin == 1 || col d b == 3 && d.fin == 2)
def tabCells (st : Nat) : List Value := (tab st).flatten.map (Value.int .i64)
theorem tabCells_at (st c : Nat) (hst : st ≤ 6) (hc : c < 5) : ∃ a0 a1 a2 a3 a4 a5 a6 : Int, (tab st)[c]? = some [a0, a1, a2, a3, a4, a5, a6] ∧ ∀ j u, [a0, a1, a2, a3, a4, a5, a6][j]? = some u → (tabCells st)[c * 7 + j]? = some (.int .i64 u) := by
  have h : ∀ st, st ≤ 6 → ∀ c, c < 5 → ∃ r : List Int, (tab st)[c]? = some r ∧ r.length = 7 ∧ ∀ j, j < 7 → ((tab st).flatten)[c * 7 + j]? = r[j]? := by
    intro st hst c hc
    refine ⟨((tab st)[c]?).getD [], ?_⟩
    revert c
    revert st
    decide
  obtain ⟨r, h1, h2, h3⟩ := h st hst c hc
  match r, h2 with
  | [a0, a1, a2, a3, a4, a5, a6], _ =>
    refine ⟨a0, a1, a2, a3, a4, a5, a6, h1, fun j u hu => ?_⟩
    have hj : j < 7 := (List.getElem?_eq_some_iff.1 hu).1
    rw [tabCells, List.getElem?_map, h3 j hj, hu]
    rfl
theorem col_lt (d : Dia) (b : UInt8) : col d b < 5 := by
  unfold col
  repeat' split
  all_goals omega
/-- What the row says is what a byte comes to. -/
theorem step_row (d : Dia) (st : Nat) (hst : st ≤ 6) (b : UInt8) (hq : mayPart d.quote = true) (hd : mayPart d.delim = true) (hb : badEnd d st b = false) (a0 a1 a2 a3 a4 a5 a6 : Int) (hr : (tab st)[col d b]? = some [a0, a1, a2, a3, a4, a5, a6]) :
    one (Mach.step d st b).1.beg = a0 ∧ one (Mach.step d st b).1.add = a1 ∧ one (Mach.step d st b).1.fld = a2 ∧ one (Mach.step d st b).1.lin = a3 ∧ one (Mach.step d st b).1.rcd = a4 ∧ ((Mach.step d st b).2.1 : Int) = a5 ∧ ((Mach.step d st b).2.2 : Int) = a6 ∧ (Mach.step d st b).1.b = if a1 = 1 then b else 0 := by
  rw [mayPart_iff] at hq hd
  have e1 : (b == d.quote) = true → b ≠ 13 ∧ b ≠ 10 := by intro h; rw [beq_iff_eq] at h; subst h; exact hq.2
  have e2 : (b == d.delim) = true → b ≠ 13 ∧ b ≠ 10 := by intro h; rw [beq_iff_eq] at h; subst h; exact hd.2
  have e3 : (b == 13) = true → (b == 10) = false := by intro h; rw [beq_iff_eq] at h; subst h; rfl
  unfold badEnd at hb
  unfold Mach.step atStart inRecord wrongEnd
  revert hb hr
  unfold col
  cases h1 : b == d.quote
  · cases h2 : b == d.delim
    · cases h3 : b == 13
      · cases h4 : b == 10
        · obtain rfl | rfl | rfl | rfl | rfl | rfl | rfl : st = 0 ∨ st = 1 ∨ st = 2 ∨ st = 3 ∨ st = 4 ∨ st = 5 ∨ st = 6 := by omega
          all_goals (intro hb hr; simp [tab] at hr; obtain ⟨rfl, rfl, rfl, rfl, rfl, rfl, rfl⟩ := hr; simp [one, ev0, bne, h4])
        · obtain rfl | rfl | rfl | rfl | rfl | rfl | rfl : st = 0 ∨ st = 1 ∨ st = 2 ∨ st = 3 ∨ st = 4 ∨ st = 5 ∨ st = 6 := by omega
          all_goals (intro hb hr; simp [tab] at hr hb; obtain ⟨rfl, rfl, rfl, rfl, rfl, rfl, rfl⟩ := hr; simp [one, ev0, bne, h4, hb])
      · have h4 := e3 h3
        obtain rfl | rfl | rfl | rfl | rfl | rfl | rfl : st = 0 ∨ st = 1 ∨ st = 2 ∨ st = 3 ∨ st = 4 ∨ st = 5 ∨ st = 6 := by omega
        all_goals (intro hb hr; simp [tab] at hr hb; obtain ⟨rfl, rfl, rfl, rfl, rfl, rfl, rfl⟩ := hr; simp [one, ev0, bne, h4, hb])
    · have h34 := e2 h2
      have h3 : (b == 13) = false := by simpa using h34.1
      have h4 : (b == 10) = false := by simpa using h34.2
      obtain rfl | rfl | rfl | rfl | rfl | rfl | rfl : st = 0 ∨ st = 1 ∨ st = 2 ∨ st = 3 ∨ st = 4 ∨ st = 5 ∨ st = 6 := by omega
      all_goals (intro hb hr; simp [tab] at hr hb; obtain ⟨rfl, rfl, rfl, rfl, rfl, rfl, rfl⟩ := hr; simp [one, ev0, bne, h3, h4])
  · have h34 := e1 h1
    have h3 : (b == 13) = false := by simpa using h34.1
    have h4 : (b == 10) = false := by simpa using h34.2
    obtain rfl | rfl | rfl | rfl | rfl | rfl | rfl : st = 0 ∨ st = 1 ∨ st = 2 ∨ st = 3 ∨ st = 4 ∨ st = 5 ∨ st = 6 := by omega
    all_goals (intro hb hr; simp [tab] at hr hb; obtain ⟨rfl, rfl, rfl, rfl, rfl, rfl, rfl⟩ := hr; simp [one, ev0, bne, h3, h4])
theorem step_bad (d : Dia) (st : Nat) (hst : st ≤ 6) (b : UInt8) (hq : mayPart d.quote = true) (hd : mayPart d.delim = true) (hb : badEnd d st b = true) : Mach.step d st b = (ev0, 0, 6) := by
  rw [mayPart_iff] at hq hd
  have hw : wrongEnd d b = true ∧ (st = 0 ∨ st = 1 ∨ st = 2 ∨ st = 4) := by
    unfold badEnd col at hb
    unfold wrongEnd
    simp only [Bool.and_eq_true, bne_iff_ne, ne_eq, decide_eq_true_eq, Bool.or_eq_true, beq_iff_eq] at hb
    refine ⟨?_, by omega⟩
    simp only [Bool.or_eq_true, Bool.and_eq_true, beq_iff_eq]
    obtain ⟨_, h⟩ := hb
    rcases h with ⟨h, hz⟩ | ⟨h, hz⟩
    · left
      refine ⟨?_, hz⟩
      by_cases h1 : b = d.quote <;> by_cases h2 : b = d.delim <;> by_cases h3 : b = 13 <;> by_cases h4 : b = 10 <;> simp_all
    · right
      refine ⟨?_, hz⟩
      by_cases h1 : b = d.quote <;> by_cases h2 : b = d.delim <;> by_cases h3 : b = 13 <;> by_cases h4 : b = 10 <;> simp_all
  obtain ⟨h1, rfl | rfl | rfl | rfl⟩ := hw <;> simp [Mach.step, atStart, inRecord, h1]

set_option maxRecDepth 100000 in
set_option maxHeartbeats 4000000 in
theorem rstep_c (d : Dia) (st : Nat) (hst : st ≤ 6) (b : UInt8) (hq : mayPart d.quote = true) (hd : mayPart d.delim = true) (w : World) : Calls Try.prog 25 #[rdiaV d, .int .i64 st, .int .i64 b.toNat] w fun e w' => e = .returned (rstepV (Mach.step d st b)) ∧ Keeps [] w w' := by
  have HC := Lib.hid (fun w => column_c d b w)
  have hc5 := col_lt d b
  have HB := Lib.hid (step_bad d st hst b hq hd)
  have HG := Lib.hid (step_row d st hst b hq hd)
  have HT := Lib.hid (tabCells_at st (col d b) hst hc5)
  have hbe : badEnd d st b = (st != 3 && decide (st < 5) && (col d b == 2 && d.fin == 1 || col d b == 3 && d.fin == 2)) := rfl
  have HBE := Lib.hid hbe
  clear hbe
  generalize badEnd d st b = bad at *
  generalize col d b = c at *
  have hbx := (Blk.new w 57 [.int .i64 d.delim.toNat, .int .i64 d.quote.toNat, .int .i64 d.fin]).alloc (.cells #[.int .i64 0, .int .i64 0, .int .i64 0, .int .i64 0, .int .i64 0, .int .i64 0] 44)
  have kp := (Keeps.alloc [] w (.cells #[.int .i64 d.delim.toNat, .int .i64 d.quote.toNat, .int .i64 d.fin] 57)).alloc1 (.cells #[.int .i64 0, .int .i64 0, .int .i64 0, .int .i64 0, .int .i64 0, .int .i64 0] 44)
  have hre := Blk.new (w.alloc (.cells #[.int .i64 d.delim.toNat, .int .i64 d.quote.toNat, .int .i64 d.fin] 57)) 44 [.int .i64 0, .int .i64 0, .int .i64 0, .int .i64 0, .int .i64 0, .int .i64 0]
  rw [show (w.alloc (.cells #[.int .i64 d.delim.toNat, .int .i64 d.quote.toNat, .int .i64 d.fin] 57)).heap.size = w.heap.size + 1 by simp] at hre
  generalize Mach.step d st b = M at *
  obtain ⟨x, y, z⟩ := d
  go_enter Try.func25, Try.ntmps25
  go_wp2_with (fail)
  refine (HC.out _).mono ?_
  rintro e w1 ⟨rfl, k1⟩
  have hb1 := hbx.keep k1 (by simp)
  have hr1 := hre.keep k1 (by simp)
  have c2 := hb1.cell_of (i := 2) rfl
  have kk := kp.trans k1 (by simp)
  have hsz : w.heap.size + 1 < w1.heap.size := hr1.lt
  clear hbx hre kp k1 hb1
  go_upto_region 2 with (fail)
  go_cut [46] (fun v wx => v = .bool bad ∧ wx = w1)
  case first =>
    have e1 : ((st : Int) != 3) = (st != 3) := by rw [Bool.eq_iff_iff, bne_iff_ne, bne_iff_ne]; omega
    have e2 : decide ((st : Int) < 5) = decide (st < 5) := by rw [decide_eq_decide]; omega
    have e3 : ((c : Int) == 2) = (c == 2) := by rw [Bool.eq_iff_iff, beq_iff_eq, beq_iff_eq]; omega
    have e5 : ((c : Int) == 3) = (c == 3) := by rw [Bool.eq_iff_iff, beq_iff_eq, beq_iff_eq]; omega
    have e35 : (c == 2) = true → (c == 3) = false := by intro h; rw [beq_iff_eq] at h; subst h; rfl
    have hbe := HBE.out
    clear HBE HB HG HT hr1 hq hd hc5
    generalize (st != 3) = a1 at e1 hbe
    generalize decide (st < 5) = a2 at e2 hbe
    generalize (c == 2) = a3 at e3 e35 hbe
    generalize (c == 3) = a5 at e5 e35 hbe
    obtain ⟨a4, e4⟩ : ∃ a, (z == 1) = a := ⟨_, rfl⟩
    obtain ⟨a6, e6⟩ : ∃ a, (z == 2) = a := ⟨_, rfl⟩
    rw [e4, e6] at hbe
    subst hbe
    cases a1
    · go_wp2_with (fail)
      go_meet
      exact ⟨rfl, rfl⟩
    cases a2
    · go_wp2_with (fail)
      go_meet
      exact ⟨rfl, rfl⟩
    cases a3
    · clear e35
      cases a5
      · go_wp2_with (fail)
        go_meet
        exact ⟨rfl, rfl⟩
      · cases a6
        all_goals
          go_wp2_with (fail)
          go_meet
          exact ⟨rfl, rfl⟩
    · have e5' := e35 rfl
      subst e5'
      clear e35
      cases a4
      all_goals
        go_wp2_with (fail)
        go_meet
        exact ⟨rfl, rfl⟩
  case rest =>
    obtain ⟨rfl, rfl⟩ := hcut
    cases bad
    rotate_left
    · have HM := Lib.hid (HB.out rfl)
      have r0 := hr1.cell_of (i := 0) rfl
      have r1 := hr1.cell_of (i := 1) rfl
      have r2 := hr1.cell_of (i := 2) rfl
      have r3 := hr1.cell_of (i := 3) rfl
      have r4 := hr1.cell_of (i := 4) rfl
      have r5 := hr1.cell_of (i := 5) rfl
      have s0 := hr1.frozen (i := 0) (by simp)
      have s1' := hr1.frozen (i := 1) (by simp)
      have s2 := hr1.frozen (i := 2) (by simp)
      have s3 := hr1.frozen (i := 3) (by simp)
      have s4' := hr1.frozen (i := 4) (by simp)
      have s5 := hr1.frozen (i := 5) (by simp)
      go_wp2_with (fail)
      refine bodyPost_ret (v := .tuple #[.agg #[.int .i64 0, .int .i64 0, .int .i64 0, .int .i64 0, .int .i64 0, .int .i64 0], .int .i64 0, .int .i64 6]) (by simp [results, Try.results25, go_sem, r0, r1, r2, r3, r4, r5]) rfl ⟨by rw [HM.out]; rfl, ?_⟩
      exact (((((kk.set1 _ _ (by simp)).set1 _ _ (by simp)).set1 _ _ (by simp)).set1 _ _ (by simp)).set1 _ _ (by simp)).set1 _ _ (by simp)
    · clear HB HC HBE
      have hre := hr1
      clear hr1
      go_upto_region 5 with (fail)
      have hn := Blk.new wc 84 [.int .i64 0, .int .i64 0, .int .i64 0, .int .i64 0, .int .i64 0, .int .i64 0, .int .i64 0]
      have hre2 := hre.alloc (.cells #[.int .i64 0, .int .i64 0, .int .i64 0, .int .i64 0, .int .i64 0, .int .i64 0, .int .i64 0] 84)
      have kk2 := kk.alloc1 (.cells #[.int .i64 0, .int .i64 0, .int .i64 0, .int .i64 0, .int .i64 0, .int .i64 0, .int .i64 0] 84)
      have hn0 := hn.lt
      have hsz2 : w.heap.size + 1 < wc.heap.size := hsz
      clear hre kk hsz
      generalize hg0 : wc.heap.size = g0 at *
      generalize wc.alloc (.cells #[.int .i64 0, .int .i64 0, .int .i64 0, .int .i64 0, .int .i64 0, .int .i64 0, .int .i64 0] 84) = w2 at *
      clear hg0
      have ht := Blk.new w2 85 z35
      have HTH := ht.there
      have hrg := hn.range
      have hi7 : (Try.prog.info? 84).map (·.size) = some 7 := by kernel_rfl
      have hi57 : (Try.prog.info? 85).map (·.size) = some 35 := by kernel_rfl
      obtain ⟨hset, kset⟩ := ht.setAll z35 rfl
      refine wp_region_lit ?_
      iterate 5 refine wpList_load_mid rfl 84 _ rfl g0 0 rfl _ _ hrg Try.underlying84 rfl hi7 ?_
      refine wpList_val (.agg z35.toArray) w2 (by kernel_rfl) rfl ?_
      refine wpList_val (.pointer (some ⟨w2.heap.size, 0, none⟩)) (w2.alloc (.cells z35.toArray 85)) (by kernel_rfl) rfl ?_
      refine wpList_store_mid rfl 85 (.tmp 11) (.tmp 54) rfl w2.heap.size 0 z35.toArray (by kernel_rfl) (by kernel_rfl) HTH hi57 (by kernel_rfl) ?_
      refine tail_at (w' := (w2.alloc (.cells z35.toArray 85)).setCells w2.heap.size 0 z35) rfl ?_
      have hn3 := (hn.alloc (.cells z35.toArray 85)).keep kset (by simp; omega)
      have hre3 := (hre2.alloc (.cells z35.toArray 85)).keep kset (by simp; omega)
      have kk3 := (kk2.alloc1 (.cells z35.toArray 85)).trans kset (by intro a ha hl; simp at ha; have := kk2.size; omega)
      have hg1 := hset.lt
      have hsz3 : w.heap.size + 1 < w2.heap.size := by omega
      clear hn hre2 kk2 ht HTH kset hrg hsz2
      generalize hgg : w2.heap.size = g1 at *
      generalize (w2.alloc (.cells z35.toArray 85)).setCells g1 0 z35 = w3 at *
      clear hgg
      unfold wpList
      go_upto_block 0 with (fail)
      have b12 := (((((Blk.new w3 84 [.int .i64 0, .int .i64 1, .int .i64 0, .int .i64 0, .int .i64 0, .int .i64 3, .int .i64 0]).alloc (.cells #[.int .i64 0, .int .i64 0, .int .i64 1, .int .i64 0, .int .i64 0, .int .i64 1, .int .i64 0] 84)).alloc (.cells #[.int .i64 0, .int .i64 0, .int .i64 0, .int .i64 1, .int .i64 0, .int .i64 5, .int .i64 0] 84)).alloc (.cells #[.int .i64 0, .int .i64 0, .int .i64 0, .int .i64 1, .int .i64 1, .int .i64 0, .int .i64 0] 84)).alloc (.cells #[.int .i64 0, .int .i64 1, .int .i64 0, .int .i64 0, .int .i64 0, .int .i64 2, .int .i64 0] 84)).alloc (.cells #[.int .i64 0, .int .i64 0, .int .i64 0, .int .i64 0, .int .i64 0, .int .i64 0, .int .i64 6] 84)
      have b13 := ((((Blk.new (w3.alloc (.cells #[.int .i64 0, .int .i64 1, .int .i64 0, .int .i64 0, .int .i64 0, .int .i64 3, .int .i64 0] 84)) 84 [.int .i64 0, .int .i64 0, .int .i64 1, .int .i64 0, .int .i64 0, .int .i64 1, .int .i64 0]).alloc (.cells #[.int .i64 0, .int .i64 0, .int .i64 0, .int .i64 1, .int .i64 0, .int .i64 5, .int .i64 0] 84)).alloc (.cells #[.int .i64 0, .int .i64 0, .int .i64 0, .int .i64 1, .int .i64 1, .int .i64 0, .int .i64 0] 84)).alloc (.cells #[.int .i64 0, .int .i64 1, .int .i64 0, .int .i64 0, .int .i64 0, .int .i64 2, .int .i64 0] 84)).alloc (.cells #[.int .i64 0, .int .i64 0, .int .i64 0, .int .i64 0, .int .i64 0, .int .i64 0, .int .i64 6] 84)
      have b14 := (((Blk.new ((w3.alloc (.cells #[.int .i64 0, .int .i64 1, .int .i64 0, .int .i64 0, .int .i64 0, .int .i64 3, .int .i64 0] 84)).alloc (.cells #[.int .i64 0, .int .i64 0, .int .i64 1, .int .i64 0, .int .i64 0, .int .i64 1, .int .i64 0] 84)) 84 [.int .i64 0, .int .i64 0, .int .i64 0, .int .i64 1, .int .i64 0, .int .i64 5, .int .i64 0]).alloc (.cells #[.int .i64 0, .int .i64 0, .int .i64 0, .int .i64 1, .int .i64 1, .int .i64 0, .int .i64 0] 84)).alloc (.cells #[.int .i64 0, .int .i64 1, .int .i64 0, .int .i64 0, .int .i64 0, .int .i64 2, .int .i64 0] 84)).alloc (.cells #[.int .i64 0, .int .i64 0, .int .i64 0, .int .i64 0, .int .i64 0, .int .i64 0, .int .i64 6] 84)
      have b15 := ((Blk.new (((w3.alloc (.cells #[.int .i64 0, .int .i64 1, .int .i64 0, .int .i64 0, .int .i64 0, .int .i64 3, .int .i64 0] 84)).alloc (.cells #[.int .i64 0, .int .i64 0, .int .i64 1, .int .i64 0, .int .i64 0, .int .i64 1, .int .i64 0] 84)).alloc (.cells #[.int .i64 0, .int .i64 0, .int .i64 0, .int .i64 1, .int .i64 0, .int .i64 5, .int .i64 0] 84)) 84 [.int .i64 0, .int .i64 0, .int .i64 0, .int .i64 1, .int .i64 1, .int .i64 0, .int .i64 0]).alloc (.cells #[.int .i64 0, .int .i64 1, .int .i64 0, .int .i64 0, .int .i64 0, .int .i64 2, .int .i64 0] 84)).alloc (.cells #[.int .i64 0, .int .i64 0, .int .i64 0, .int .i64 0, .int .i64 0, .int .i64 0, .int .i64 6] 84)
      have b16 := (Blk.new ((((w3.alloc (.cells #[.int .i64 0, .int .i64 1, .int .i64 0, .int .i64 0, .int .i64 0, .int .i64 3, .int .i64 0] 84)).alloc (.cells #[.int .i64 0, .int .i64 0, .int .i64 1, .int .i64 0, .int .i64 0, .int .i64 1, .int .i64 0] 84)).alloc (.cells #[.int .i64 0, .int .i64 0, .int .i64 0, .int .i64 1, .int .i64 0, .int .i64 5, .int .i64 0] 84)).alloc (.cells #[.int .i64 0, .int .i64 0, .int .i64 0, .int .i64 1, .int .i64 1, .int .i64 0, .int .i64 0] 84)) 84 [.int .i64 0, .int .i64 1, .int .i64 0, .int .i64 0, .int .i64 0, .int .i64 2, .int .i64 0]).alloc (.cells #[.int .i64 0, .int .i64 0, .int .i64 0, .int .i64 0, .int .i64 0, .int .i64 0, .int .i64 6] 84)
      have b17 := Blk.new (((((w3.alloc (.cells #[.int .i64 0, .int .i64 1, .int .i64 0, .int .i64 0, .int .i64 0, .int .i64 3, .int .i64 0] 84)).alloc (.cells #[.int .i64 0, .int .i64 0, .int .i64 1, .int .i64 0, .int .i64 0, .int .i64 1, .int .i64 0] 84)).alloc (.cells #[.int .i64 0, .int .i64 0, .int .i64 0, .int .i64 1, .int .i64 0, .int .i64 5, .int .i64 0] 84)).alloc (.cells #[.int .i64 0, .int .i64 0, .int .i64 0, .int .i64 1, .int .i64 1, .int .i64 0, .int .i64 0] 84)).alloc (.cells #[.int .i64 0, .int .i64 1, .int .i64 0, .int .i64 0, .int .i64 0, .int .i64 2, .int .i64 0] 84)) 84 [.int .i64 0, .int .i64 0, .int .i64 0, .int .i64 0, .int .i64 0, .int .i64 0, .int .i64 6]
      simp only [World.size_alloc] at b12 b13 b14 b15 b16 b17
      have hn4 := (((((hn3.alloc (.cells #[.int .i64 0, .int .i64 1, .int .i64 0, .int .i64 0, .int .i64 0, .int .i64 3, .int .i64 0] 84)).alloc (.cells #[.int .i64 0, .int .i64 0, .int .i64 1, .int .i64 0, .int .i64 0, .int .i64 1, .int .i64 0] 84)).alloc (.cells #[.int .i64 0, .int .i64 0, .int .i64 0, .int .i64 1, .int .i64 0, .int .i64 5, .int .i64 0] 84)).alloc (.cells #[.int .i64 0, .int .i64 0, .int .i64 0, .int .i64 1, .int .i64 1, .int .i64 0, .int .i64 0] 84)).alloc (.cells #[.int .i64 0, .int .i64 1, .int .i64 0, .int .i64 0, .int .i64 0, .int .i64 2, .int .i64 0] 84)).alloc (.cells #[.int .i64 0, .int .i64 0, .int .i64 0, .int .i64 0, .int .i64 0, .int .i64 0, .int .i64 6] 84)
      have hre4 := (((((hre3.alloc (.cells #[.int .i64 0, .int .i64 1, .int .i64 0, .int .i64 0, .int .i64 0, .int .i64 3, .int .i64 0] 84)).alloc (.cells #[.int .i64 0, .int .i64 0, .int .i64 1, .int .i64 0, .int .i64 0, .int .i64 1, .int .i64 0] 84)).alloc (.cells #[.int .i64 0, .int .i64 0, .int .i64 0, .int .i64 1, .int .i64 0, .int .i64 5, .int .i64 0] 84)).alloc (.cells #[.int .i64 0, .int .i64 0, .int .i64 0, .int .i64 1, .int .i64 1, .int .i64 0, .int .i64 0] 84)).alloc (.cells #[.int .i64 0, .int .i64 1, .int .i64 0, .int .i64 0, .int .i64 0, .int .i64 2, .int .i64 0] 84)).alloc (.cells #[.int .i64 0, .int .i64 0, .int .i64 0, .int .i64 0, .int .i64 0, .int .i64 0, .int .i64 6] 84)
      have hs4 := (((((hset.alloc (.cells #[.int .i64 0, .int .i64 1, .int .i64 0, .int .i64 0, .int .i64 0, .int .i64 3, .int .i64 0] 84)).alloc (.cells #[.int .i64 0, .int .i64 0, .int .i64 1, .int .i64 0, .int .i64 0, .int .i64 1, .int .i64 0] 84)).alloc (.cells #[.int .i64 0, .int .i64 0, .int .i64 0, .int .i64 1, .int .i64 0, .int .i64 5, .int .i64 0] 84)).alloc (.cells #[.int .i64 0, .int .i64 0, .int .i64 0, .int .i64 1, .int .i64 1, .int .i64 0, .int .i64 0] 84)).alloc (.cells #[.int .i64 0, .int .i64 1, .int .i64 0, .int .i64 0, .int .i64 0, .int .i64 2, .int .i64 0] 84)).alloc (.cells #[.int .i64 0, .int .i64 0, .int .i64 0, .int .i64 0, .int .i64 0, .int .i64 0, .int .i64 6] 84)
      have kk4 := (((((kk3.alloc1 (.cells #[.int .i64 0, .int .i64 1, .int .i64 0, .int .i64 0, .int .i64 0, .int .i64 3, .int .i64 0] 84)).alloc1 (.cells #[.int .i64 0, .int .i64 0, .int .i64 1, .int .i64 0, .int .i64 0, .int .i64 1, .int .i64 0] 84)).alloc1 (.cells #[.int .i64 0, .int .i64 0, .int .i64 0, .int .i64 1, .int .i64 0, .int .i64 5, .int .i64 0] 84)).alloc1 (.cells #[.int .i64 0, .int .i64 0, .int .i64 0, .int .i64 1, .int .i64 1, .int .i64 0, .int .i64 0] 84)).alloc1 (.cells #[.int .i64 0, .int .i64 1, .int .i64 0, .int .i64 0, .int .i64 0, .int .i64 2, .int .i64 0] 84)).alloc1 (.cells #[.int .i64 0, .int .i64 0, .int .i64 0, .int .i64 0, .int .i64 0, .int .i64 0, .int .i64 6] 84)
      clear hn3 hre3 hset kk3
      generalize hW4 : (((((w3.alloc (.cells #[.int .i64 0, .int .i64 1, .int .i64 0, .int .i64 0, .int .i64 0, .int .i64 3, .int .i64 0] 84)).alloc (.cells #[.int .i64 0, .int .i64 0, .int .i64 1, .int .i64 0, .int .i64 0, .int .i64 1, .int .i64 0] 84)).alloc (.cells #[.int .i64 0, .int .i64 0, .int .i64 0, .int .i64 1, .int .i64 0, .int .i64 5, .int .i64 0] 84)).alloc (.cells #[.int .i64 0, .int .i64 0, .int .i64 0, .int .i64 1, .int .i64 1, .int .i64 0, .int .i64 0] 84)).alloc (.cells #[.int .i64 0, .int .i64 1, .int .i64 0, .int .i64 0, .int .i64 0, .int .i64 2, .int .i64 0] 84)).alloc (.cells #[.int .i64 0, .int .i64 0, .int .i64 0, .int .i64 0, .int .i64 0, .int .i64 0, .int .i64 6] 84) = w4 at *
      clear hW4
      have HTH := hs4.there
      have g12 := b12.range
      have g13 := b13.range
      have g14 := b14.range
      have g15 := b15.range
      have g16 := b16.range
      have g17 := b17.range
      have g10 := hn4.range
      have hgl := hs4.lt
      clear b12 b13 b14 b15 b16 b17 hn4
      go_cut [62] (fun v wx => Blk wx g1 85 (tabCells st) ∧ Keeps [g1] w4 wx)
      case first =>
        clear HG HT hre4 kk4 hsz3 hn0 hg1 hq hd
        obtain rfl | rfl | rfl | rfl | rfl | rfl | rfl : st = 0 ∨ st = 1 ∨ st = 2 ∨ st = 3 ∨ st = 4 ∨ st = 5 ∨ st = 6 := by omega
        · obtain ⟨hs, ks⟩ := hs4.setAll (tabCells 0) rfl
          go_upto_region 14 with (fail)
          refine wp_region_lit ?_
          refine wpList_val (.agg #[.int .i64 1, .int .i64 0, .int .i64 0, .int .i64 0, .int .i64 0, .int .i64 3, .int .i64 0]) w4 (by kernel_rfl) rfl ?_
          refine wpList_val (.agg #[.int .i64 1, .int .i64 0, .int .i64 1, .int .i64 0, .int .i64 0, .int .i64 1, .int .i64 0]) w4 (by kernel_rfl) rfl ?_
          refine wpList_val (.agg #[.int .i64 0, .int .i64 0, .int .i64 0, .int .i64 0, .int .i64 0, .int .i64 6, .int .i64 0]) w4 (by kernel_rfl) rfl ?_
          refine wpList_load_mid rfl 84 _ rfl g0 0 rfl _ _ g10 Try.underlying84 rfl hi7 ?_
          refine wpList_val (.agg #[.int .i64 1, .int .i64 1, .int .i64 0, .int .i64 0, .int .i64 0, .int .i64 2, .int .i64 0]) w4 (by kernel_rfl) rfl ?_
          refine wpList_val (.agg (tabCells 0).toArray) w4 (by kernel_rfl) rfl ?_
          refine wpList_store_mid rfl 85 (.tmp 11) (.tmp 69) rfl g1 0 (tabCells 0).toArray (by kernel_rfl) (by kernel_rfl) HTH hi57 (by kernel_rfl) ?_
          refine tail_at (w' := w4.setCells g1 0 (tabCells 0)) rfl ?_
          unfold wpList
          go_wp2_with (fail)
          go_simp
          go_meet
          exact ⟨hs, ks⟩
        · obtain ⟨hs, ks⟩ := hs4.setAll (tabCells 1) rfl
          go_upto_region 16 with (fail)
          refine wp_region_lit ?_
          refine wpList_val (.agg #[.int .i64 0, .int .i64 0, .int .i64 0, .int .i64 0, .int .i64 0, .int .i64 3, .int .i64 0]) w4 (by kernel_rfl) rfl ?_
          refine wpList_load_mid rfl 84 _ rfl (w3.heap.size + 1) 0 rfl _ _ g13 Try.underlying84 rfl hi7 ?_
          refine wpList_load_mid rfl 84 _ rfl (w3.heap.size + 1 + 1) 0 rfl _ _ g14 Try.underlying84 rfl hi7 ?_
          refine wpList_load_mid rfl 84 _ rfl (w3.heap.size + 1 + 1 + 1) 0 rfl _ _ g15 Try.underlying84 rfl hi7 ?_
          refine wpList_load_mid rfl 84 _ rfl (w3.heap.size + 1 + 1 + 1 + 1) 0 rfl _ _ g16 Try.underlying84 rfl hi7 ?_
          refine wpList_val (.agg (tabCells 1).toArray) w4 (by kernel_rfl) rfl ?_
          refine wpList_store_mid rfl 85 (.tmp 11) (.tmp 77) rfl g1 0 (tabCells 1).toArray (by kernel_rfl) (by kernel_rfl) HTH hi57 (by kernel_rfl) ?_
          refine tail_at (w' := w4.setCells g1 0 (tabCells 1)) rfl ?_
          unfold wpList
          go_wp2_with (fail)
          go_simp
          go_meet
          exact ⟨hs, ks⟩
        · obtain ⟨hs, ks⟩ := hs4.setAll (tabCells 2) rfl
          go_upto_region 18 with (fail)
          refine wp_region_lit ?_
          refine wpList_val (.agg #[.int .i64 0, .int .i64 0, .int .i64 0, .int .i64 0, .int .i64 0, .int .i64 0, .int .i64 4]) w4 (by kernel_rfl) rfl ?_
          refine wpList_load_mid rfl 84 _ rfl (w3.heap.size + 1) 0 rfl _ _ g13 Try.underlying84 rfl hi7 ?_
          refine wpList_load_mid rfl 84 _ rfl (w3.heap.size + 1 + 1) 0 rfl _ _ g14 Try.underlying84 rfl hi7 ?_
          refine wpList_load_mid rfl 84 _ rfl (w3.heap.size + 1 + 1 + 1) 0 rfl _ _ g15 Try.underlying84 rfl hi7 ?_
          refine wpList_load_mid rfl 84 _ rfl (w3.heap.size + 1 + 1 + 1 + 1) 0 rfl _ _ g16 Try.underlying84 rfl hi7 ?_
          refine wpList_val (.agg (tabCells 2).toArray) w4 (by kernel_rfl) rfl ?_
          refine wpList_store_mid rfl 85 (.tmp 11) (.tmp 85) rfl g1 0 (tabCells 2).toArray (by kernel_rfl) (by kernel_rfl) HTH hi57 (by kernel_rfl) ?_
          refine tail_at (w' := w4.setCells g1 0 (tabCells 2)) rfl ?_
          unfold wpList
          go_wp2_with (fail)
          go_simp
          go_meet
          exact ⟨hs, ks⟩
        · obtain ⟨hs, ks⟩ := hs4.setAll (tabCells 3) rfl
          go_upto_region 20 with (fail)
          refine wp_region_lit ?_
          refine wpList_val (.agg #[.int .i64 0, .int .i64 0, .int .i64 0, .int .i64 0, .int .i64 0, .int .i64 4, .int .i64 0]) w4 (by kernel_rfl) rfl ?_
          refine wpList_load_mid rfl 84 _ rfl (w3.heap.size) 0 rfl _ _ g12 Try.underlying84 rfl hi7 ?_
          refine wpList_load_mid rfl 84 _ rfl (w3.heap.size) 0 rfl _ _ g12 Try.underlying84 rfl hi7 ?_
          refine wpList_load_mid rfl 84 _ rfl (w3.heap.size) 0 rfl _ _ g12 Try.underlying84 rfl hi7 ?_
          refine wpList_load_mid rfl 84 _ rfl (w3.heap.size) 0 rfl _ _ g12 Try.underlying84 rfl hi7 ?_
          refine wpList_val (.agg (tabCells 3).toArray) w4 (by kernel_rfl) rfl ?_
          refine wpList_store_mid rfl 85 (.tmp 11) (.tmp 93) rfl g1 0 (tabCells 3).toArray (by kernel_rfl) (by kernel_rfl) HTH hi57 (by kernel_rfl) ?_
          refine tail_at (w' := w4.setCells g1 0 (tabCells 3)) rfl ?_
          unfold wpList
          go_wp2_with (fail)
          go_simp
          go_meet
          exact ⟨hs, ks⟩
        · obtain ⟨hs, ks⟩ := hs4.setAll (tabCells 4) rfl
          go_upto_region 22 with (fail)
          refine wp_region_lit ?_
          refine wpList_load_mid rfl 84 _ rfl (w3.heap.size) 0 rfl _ _ g12 Try.underlying84 rfl hi7 ?_
          refine wpList_load_mid rfl 84 _ rfl (w3.heap.size + 1) 0 rfl _ _ g13 Try.underlying84 rfl hi7 ?_
          refine wpList_load_mid rfl 84 _ rfl (w3.heap.size + 1 + 1) 0 rfl _ _ g14 Try.underlying84 rfl hi7 ?_
          refine wpList_load_mid rfl 84 _ rfl (w3.heap.size + 1 + 1 + 1) 0 rfl _ _ g15 Try.underlying84 rfl hi7 ?_
          refine wpList_val (.agg #[.int .i64 0, .int .i64 0, .int .i64 0, .int .i64 0, .int .i64 0, .int .i64 0, .int .i64 5]) w4 (by kernel_rfl) rfl ?_
          refine wpList_val (.agg (tabCells 4).toArray) w4 (by kernel_rfl) rfl ?_
          refine wpList_store_mid rfl 85 (.tmp 11) (.tmp 101) rfl g1 0 (tabCells 4).toArray (by kernel_rfl) (by kernel_rfl) HTH hi57 (by kernel_rfl) ?_
          refine tail_at (w' := w4.setCells g1 0 (tabCells 4)) rfl ?_
          unfold wpList
          go_wp2_with (fail)
          go_simp
          go_meet
          exact ⟨hs, ks⟩
        · obtain ⟨hs, ks⟩ := hs4.setAll (tabCells 5) rfl
          go_upto_region 24 with (fail)
          refine wp_region_lit ?_
          refine wpList_load_mid rfl 84 _ rfl (w3.heap.size + 1 + 1 + 1 + 1 + 1) 0 rfl _ _ g17 Try.underlying84 rfl hi7 ?_
          refine wpList_load_mid rfl 84 _ rfl (w3.heap.size + 1 + 1 + 1 + 1 + 1) 0 rfl _ _ g17 Try.underlying84 rfl hi7 ?_
          refine wpList_load_mid rfl 84 _ rfl (w3.heap.size + 1 + 1 + 1 + 1 + 1) 0 rfl _ _ g17 Try.underlying84 rfl hi7 ?_
          refine wpList_val (.agg #[.int .i64 0, .int .i64 0, .int .i64 0, .int .i64 0, .int .i64 1, .int .i64 0, .int .i64 0]) w4 (by kernel_rfl) rfl ?_
          refine wpList_load_mid rfl 84 _ rfl (w3.heap.size + 1 + 1 + 1 + 1 + 1) 0 rfl _ _ g17 Try.underlying84 rfl hi7 ?_
          refine wpList_val (.agg (tabCells 5).toArray) w4 (by kernel_rfl) rfl ?_
          refine wpList_store_mid rfl 85 (.tmp 11) (.tmp 109) rfl g1 0 (tabCells 5).toArray (by kernel_rfl) (by kernel_rfl) HTH hi57 (by kernel_rfl) ?_
          refine tail_at (w' := w4.setCells g1 0 (tabCells 5)) rfl ?_
          unfold wpList
          go_wp2_with (fail)
          go_simp
          go_meet
          exact ⟨hs, ks⟩
        · obtain ⟨hs, ks⟩ := hs4.setAll (tabCells 6) rfl
          go_upto_region 26 with (fail)
          refine wp_region_lit ?_
          refine wpList_load_mid rfl 84 _ rfl (w3.heap.size + 1 + 1 + 1 + 1 + 1) 0 rfl _ _ g17 Try.underlying84 rfl hi7 ?_
          refine wpList_load_mid rfl 84 _ rfl (w3.heap.size + 1 + 1 + 1 + 1 + 1) 0 rfl _ _ g17 Try.underlying84 rfl hi7 ?_
          refine wpList_load_mid rfl 84 _ rfl (w3.heap.size + 1 + 1 + 1 + 1 + 1) 0 rfl _ _ g17 Try.underlying84 rfl hi7 ?_
          refine wpList_load_mid rfl 84 _ rfl g0 0 rfl _ _ g10 Try.underlying84 rfl hi7 ?_
          refine wpList_load_mid rfl 84 _ rfl (w3.heap.size + 1 + 1 + 1 + 1 + 1) 0 rfl _ _ g17 Try.underlying84 rfl hi7 ?_
          refine wpList_val (.agg (tabCells 6).toArray) w4 (by kernel_rfl) rfl ?_
          refine wpList_store_mid rfl 85 (.tmp 11) (.tmp 117) rfl g1 0 (tabCells 6).toArray (by kernel_rfl) (by kernel_rfl) HTH hi57 (by kernel_rfl) ?_
          refine tail_at (w' := w4.setCells g1 0 (tabCells 6)) rfl ?_
          unfold wpList
          go_wp2_with (fail)
          go_simp
          go_meet
          exact ⟨hs, ks⟩
      case rest =>
        obtain ⟨hs, ks⟩ := hcut
        have hr5 := hre4.keep ks (by simp; omega)
        have kk5 := kk4.trans ks (by intro a ha hl; simp at ha; omega)
        obtain ⟨a0, a1, a2, a3, a4, a5, a6, hrow, hcells⟩ := HT.out
        obtain ⟨⟨e1, e2, e3, e4, e5, e6⟩, n, r⟩ := M
        obtain ⟨rfl, rfl, rfl, rfl, rfl, rfl, rfl, hb⟩ := HG.out rfl _ _ _ _ _ _ _ hrow
        dsimp only at hb hcells
        have t0 := hs.cell_of (hcells 0 _ rfl)
        have t1 := hs.cell_of (hcells 1 _ rfl)
        have t2 := hs.cell_of (hcells 2 _ rfl)
        have t3 := hs.cell_of (hcells 3 _ rfl)
        have t4 := hs.cell_of (hcells 4 _ rfl)
        have t5 := hs.cell_of (hcells 5 _ rfl)
        have t6 := hs.cell_of (hcells 6 _ rfl)
        rw [Nat.add_zero] at t0
        have r0 := hr5.cell_of (i := 0) rfl
        have r1 := hr5.cell_of (i := 1) rfl
        have r2 := hr5.cell_of (i := 2) rfl
        have r3 := hr5.cell_of (i := 3) rfl
        have r4 := hr5.cell_of (i := 4) rfl
        have r5 := hr5.cell_of (i := 5) rfl
        have s0 := hr5.frozen (i := 0) (by simp)
        have s1' := hr5.frozen (i := 1) (by simp)
        have s2 := hr5.frozen (i := 2) (by simp)
        have s3 := hr5.frozen (i := 3) (by simp)
        have s4' := hr5.frozen (i := 4) (by simp)
        have s5 := hr5.frozen (i := 5) (by simp)
        have hc0 : (0 : Int) ≤ (c : Int) := by omega
        have hc1 : (c : Int) < 5 := by omega
        have hgl5 := hs.lt
        have hrl5 := hr5.lt
        have HBB := Lib.hid hb
        clear hb hcells hrow HG HT hs4 ks hre4 kk4 hq hd hs g10 g12 g13 g14 g15 g16 g17 HTH hi7 hi57 hsz3 hgl hn0 hg1 hst hc5 c2
        cases e2
        · have ho : Ref4.one false = 0 := rfl
          go_wp2_with (fail)
          have hx := (Blk.new wc 84 [.int .i64 (Ref4.one e1), .int .i64 0, .int .i64 (Ref4.one e3), .int .i64 (Ref4.one e4), .int .i64 (Ref4.one e5), .int .i64 n, .int .i64 r]).alloc (.cells #[.int .i64 (Ref4.one e1), .int .i64 0, .int .i64 (Ref4.one e3), .int .i64 (Ref4.one e4), .int .i64 (Ref4.one e5), .int .i64 0] 44)
          have hy := Blk.new (wc.alloc (.cells #[.int .i64 (Ref4.one e1), .int .i64 0, .int .i64 (Ref4.one e3), .int .i64 (Ref4.one e4), .int .i64 (Ref4.one e5), .int .i64 n, .int .i64 r] 84)) 44 [.int .i64 (Ref4.one e1), .int .i64 0, .int .i64 (Ref4.one e3), .int .i64 (Ref4.one e4), .int .i64 (Ref4.one e5), .int .i64 0]
          rw [World.size_alloc] at hy
          have hr6 := (hr5.alloc (.cells #[.int .i64 (Ref4.one e1), .int .i64 0, .int .i64 (Ref4.one e3), .int .i64 (Ref4.one e4), .int .i64 (Ref4.one e5), .int .i64 n, .int .i64 r] 84)).alloc (.cells #[.int .i64 (Ref4.one e1), .int .i64 0, .int .i64 (Ref4.one e3), .int .i64 (Ref4.one e4), .int .i64 (Ref4.one e5), .int .i64 0] 44)
          have kk6 := (kk5.alloc1 (.cells #[.int .i64 (Ref4.one e1), .int .i64 0, .int .i64 (Ref4.one e3), .int .i64 (Ref4.one e4), .int .i64 (Ref4.one e5), .int .i64 n, .int .i64 r] 84)).alloc1 (.cells #[.int .i64 (Ref4.one e1), .int .i64 0, .int .i64 (Ref4.one e3), .int .i64 (Ref4.one e4), .int .i64 (Ref4.one e5), .int .i64 0] 44)
          clear r0 r1 r2 r3 r4 r5 s0 s1' s2 s3 s4' s5 t0 t1 t2 t3 t4 t5 t6 hr5 kk5
          generalize (wc.alloc (.cells #[.int .i64 (Ref4.one e1), .int .i64 0, .int .i64 (Ref4.one e3), .int .i64 (Ref4.one e4), .int .i64 (Ref4.one e5), .int .i64 n, .int .i64 r] 84)).alloc (.cells #[.int .i64 (Ref4.one e1), .int .i64 0, .int .i64 (Ref4.one e3), .int .i64 (Ref4.one e4), .int .i64 (Ref4.one e5), .int .i64 0] 44) = w6 at *
          have x0 := hx.cell_of (i := 0) rfl
          have x1 := hx.cell_of (i := 1) rfl
          have x2 := hx.cell_of (i := 2) rfl
          have x3 := hx.cell_of (i := 3) rfl
          have x4 := hx.cell_of (i := 4) rfl
          have x5 := hx.cell_of (i := 5) rfl
          have x6 := hx.cell_of (i := 6) rfl
          have y0 := hy.cell_of (i := 0) rfl
          have y1 := hy.cell_of (i := 1) rfl
          have y2 := hy.cell_of (i := 2) rfl
          have y3 := hy.cell_of (i := 3) rfl
          have y4 := hy.cell_of (i := 4) rfl
          have y5 := hy.cell_of (i := 5) rfl
          have r0 := hr6.cell_of (i := 0) rfl
          have r1 := hr6.cell_of (i := 1) rfl
          have r2 := hr6.cell_of (i := 2) rfl
          have r3 := hr6.cell_of (i := 3) rfl
          have r4 := hr6.cell_of (i := 4) rfl
          have r5 := hr6.cell_of (i := 5) rfl
          have s0' := hr6.frozen (i := 0) (by simp)
          have s1' := hr6.frozen (i := 1) (by simp)
          have s2' := hr6.frozen (i := 2) (by simp)
          have s3' := hr6.frozen (i := 3) (by simp)
          have s4' := hr6.frozen (i := 4) (by simp)
          have s5' := hr6.frozen (i := 5) (by simp)
          have hne1 : w.heap.size + 1 ≠ wc.heap.size := by omega
          have hne2 : w.heap.size + 1 ≠ wc.heap.size + 1 := by omega
          clear hx hy hr6
          go_region
          all_goals go_wp2_with (fail)
          all_goals
            refine bodyPost_ret (v := .tuple #[.agg #[.int .i64 (Ref4.one e1), .int .i64 0, .int .i64 (Ref4.one e3), .int .i64 (Ref4.one e4), .int .i64 (Ref4.one e5), .int .i64 0], .int .i64 n, .int .i64 r]) (by simp [results, Try.results25, go_sem, r0, r1, r2, r3, r4, r5]) rfl ⟨?_, ?_⟩
            · have h := HBB.out
              rw [if_neg (by decide)] at h
              subst h
              rfl
            · have hg : w.heap.size ≤ w.heap.size + 1 := by omega
              exact ((((((kk6.setNew _ _ hg).setNew _ _ hg).setNew _ _ hg).setNew _ _ hg).setNew _ _ hg).setNew _ _ hg).drew1
        · have ho : Ref4.one true = 1 := rfl
          go_wp2_with (fail)
          have hx := (Blk.new wc 84 [.int .i64 (Ref4.one e1), .int .i64 1, .int .i64 (Ref4.one e3), .int .i64 (Ref4.one e4), .int .i64 (Ref4.one e5), .int .i64 n, .int .i64 r]).alloc (.cells #[.int .i64 (Ref4.one e1), .int .i64 1, .int .i64 (Ref4.one e3), .int .i64 (Ref4.one e4), .int .i64 (Ref4.one e5), .int .i64 b.toNat] 44)
          have hy := Blk.new (wc.alloc (.cells #[.int .i64 (Ref4.one e1), .int .i64 1, .int .i64 (Ref4.one e3), .int .i64 (Ref4.one e4), .int .i64 (Ref4.one e5), .int .i64 n, .int .i64 r] 84)) 44 [.int .i64 (Ref4.one e1), .int .i64 1, .int .i64 (Ref4.one e3), .int .i64 (Ref4.one e4), .int .i64 (Ref4.one e5), .int .i64 b.toNat]
          rw [World.size_alloc] at hy
          have hr6 := (hr5.alloc (.cells #[.int .i64 (Ref4.one e1), .int .i64 1, .int .i64 (Ref4.one e3), .int .i64 (Ref4.one e4), .int .i64 (Ref4.one e5), .int .i64 n, .int .i64 r] 84)).alloc (.cells #[.int .i64 (Ref4.one e1), .int .i64 1, .int .i64 (Ref4.one e3), .int .i64 (Ref4.one e4), .int .i64 (Ref4.one e5), .int .i64 b.toNat] 44)
          have kk6 := (kk5.alloc1 (.cells #[.int .i64 (Ref4.one e1), .int .i64 1, .int .i64 (Ref4.one e3), .int .i64 (Ref4.one e4), .int .i64 (Ref4.one e5), .int .i64 n, .int .i64 r] 84)).alloc1 (.cells #[.int .i64 (Ref4.one e1), .int .i64 1, .int .i64 (Ref4.one e3), .int .i64 (Ref4.one e4), .int .i64 (Ref4.one e5), .int .i64 b.toNat] 44)
          clear r0 r1 r2 r3 r4 r5 s0 s1' s2 s3 s4' s5 t0 t1 t2 t3 t4 t5 t6 hr5 kk5
          generalize (wc.alloc (.cells #[.int .i64 (Ref4.one e1), .int .i64 1, .int .i64 (Ref4.one e3), .int .i64 (Ref4.one e4), .int .i64 (Ref4.one e5), .int .i64 n, .int .i64 r] 84)).alloc (.cells #[.int .i64 (Ref4.one e1), .int .i64 1, .int .i64 (Ref4.one e3), .int .i64 (Ref4.one e4), .int .i64 (Ref4.one e5), .int .i64 b.toNat] 44) = w6 at *
          have x0 := hx.cell_of (i := 0) rfl
          have x1 := hx.cell_of (i := 1) rfl
          have x2 := hx.cell_of (i := 2) rfl
          have x3 := hx.cell_of (i := 3) rfl
          have x4 := hx.cell_of (i := 4) rfl
          have x5 := hx.cell_of (i := 5) rfl
          have x6 := hx.cell_of (i := 6) rfl
          have y0 := hy.cell_of (i := 0) rfl
          have y1 := hy.cell_of (i := 1) rfl
          have y2 := hy.cell_of (i := 2) rfl
          have y3 := hy.cell_of (i := 3) rfl
          have y4 := hy.cell_of (i := 4) rfl
          have y5 := hy.cell_of (i := 5) rfl
          have r0 := hr6.cell_of (i := 0) rfl
          have r1 := hr6.cell_of (i := 1) rfl
          have r2 := hr6.cell_of (i := 2) rfl
          have r3 := hr6.cell_of (i := 3) rfl
          have r4 := hr6.cell_of (i := 4) rfl
          have r5 := hr6.cell_of (i := 5) rfl
          have s0' := hr6.frozen (i := 0) (by simp)
          have s1' := hr6.frozen (i := 1) (by simp)
          have s2' := hr6.frozen (i := 2) (by simp)
          have s3' := hr6.frozen (i := 3) (by simp)
          have s4' := hr6.frozen (i := 4) (by simp)
          have s5' := hr6.frozen (i := 5) (by simp)
          have hne1 : w.heap.size + 1 ≠ wc.heap.size := by omega
          have hne2 : w.heap.size + 1 ≠ wc.heap.size + 1 := by omega
          clear hx hy hr6
          go_region
          all_goals go_wp2_with (fail)
          all_goals
            refine bodyPost_ret (v := .tuple #[.agg #[.int .i64 (Ref4.one e1), .int .i64 1, .int .i64 (Ref4.one e3), .int .i64 (Ref4.one e4), .int .i64 (Ref4.one e5), .int .i64 b.toNat], .int .i64 n, .int .i64 r]) (by simp [results, Try.results25, go_sem, r0, r1, r2, r3, r4, r5]) rfl ⟨?_, ?_⟩
            · have h : e6 = b := by have h := HBB.out; simpa [Ref4.one] using h
              subst h
              rfl
            · have hg : w.heap.size ≤ w.heap.size + 1 := by omega
              exact ((((((kk6.setNew _ _ hg).setNew _ _ hg).setNew _ _ hg).setNew _ _ hg).setNew _ _ hg).setNew _ _ hg).drew1
end Go.Proofs.Ytogmcfljojobfaa.Ref4
