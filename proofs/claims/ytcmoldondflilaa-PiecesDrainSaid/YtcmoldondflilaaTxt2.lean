/- The example of layer 10; wide; ends. -/
import Derived.Test.YtcmoldondflilaaTxt
import Derived.BigQuiet
namespace Go.Proofs.Ytcmoldondflilaa.WLine
set_option linter.unusedVariables false
set_option linter.unusedSimpArgs false
set_option maxRecDepth 100000
open Go.RowKit Q Mach Dia Need Bld Quo
open Tab (fieldsOf bytesOf bytesOfRow)
attribute [local go_sem ↓] Go.wp_at_zero Go.wp_at_succ
theorem rdc1 {w : World} {g B : Nat} {u : Value} (hB : g < B) (h : w.cell? ⟨g, 0, none⟩ = some u) : Rd w B 1 (.slice (some ⟨g, 0, none⟩) 1 1) 1 [u] :=
  ⟨_, _, rfl, Nat.le_refl _, by simp [maxLen], rfl, .inr ⟨g, 0, rfl, hB, by intro j x hx; match j, hx with | 0, hx => simp at hx; subst hx; exact h⟩⟩
theorem rdc2 {w : World} {g B : Nat} {u v : Value} (hB : g < B) (h : w.cell? ⟨g, 0, none⟩ = some u) (h2 : w.cell? ⟨g, 1, none⟩ = some v) : Rd w B 1 (.slice (some ⟨g, 0, none⟩) 2 2) 2 [u, v] :=
  ⟨_, _, rfl, Nat.le_refl _, by simp [maxLen], rfl, .inr ⟨g, 0, rfl, hB, by intro j x hx; match j, hx with | 0, hx => simp at hx; subst hx; exact h | 1, hx => simp at hx; subst hx; exact h2⟩⟩
theorem ex_tbl {w : World} {g1 g2 g3 B : Nat} (h1 : g1 < B) (h2 : g2 < B) (h3 : g3 < B) (a0 : w.cell? ⟨g1, 0, none⟩ = some (sv [97])) (a1 : w.cell? ⟨g1, 1, none⟩ = some (sv [])) (b0 : w.cell? ⟨g2, 0, none⟩ = some (sv []))
    (c0 : w.cell? ⟨g3, 0, none⟩ = some (.slice (some ⟨g1, 0, none⟩) 2 2)) (c1 : w.cell? ⟨g3, 1, none⟩ = some (.slice (some ⟨g2, 0, none⟩) 1 1)) : Tbl w B (.slice (some ⟨g3, 0, none⟩) 2 2) [[[97], []], [[]]] := by
  refine ⟨[.slice (some ⟨g1, 0, none⟩) 2 2, .slice (some ⟨g2, 0, none⟩) 1 1], rfl, rdc2 h3 c0 c1, ?_⟩
  intro i u r hu hr
  match i, hu, hr with
  | 0, hu, hr => simp at hu hr; subst hu hr; exact rdc2 h1 a0 a1
  | 1, hu, hr => simp at hu hr; subst hu hr; exact rdc1 h2 b0
theorem ex_table : tableR ⟨44, 34, 1⟩ [[[97], []], [[]]] = ([97, 44, 10, 34, 34, 10], 2, 0) := by decide
theorem ex_world (w : World) : Tbl ((((w.alloc (.cells #[.int .u8 44, .int .u8 34, .int .i64 1] 23)).alloc (.cells #[.string ⟨#[97]⟩, .string ⟨#[]⟩] 9)).alloc (.cells #[.string ⟨#[]⟩] 9)).alloc (.cells #[.slice (some ⟨w.heap.size + 1, 0, none⟩) 2 2, .slice (some ⟨w.heap.size + 1 + 1, 0, none⟩) 1 1] 24))
    (w.heap.size + 4) (.slice (some ⟨w.heap.size + 1 + 1 + 1, 0, none⟩) 2 2) [[[97], []], [[]]] := by
  have b1 := ((Blk.new (w.alloc (.cells #[.int .u8 44, .int .u8 34, .int .i64 1] 23)) 9 [.string ⟨#[97]⟩, .string ⟨#[]⟩]).alloc (.cells #[.string ⟨#[]⟩] 9)).alloc (.cells #[.slice (some ⟨w.heap.size + 1, 0, none⟩) 2 2, .slice (some ⟨w.heap.size + 1 + 1, 0, none⟩) 1 1] 24)
  have b2 := (Blk.new ((w.alloc (.cells #[.int .u8 44, .int .u8 34, .int .i64 1] 23)).alloc (.cells #[.string ⟨#[97]⟩, .string ⟨#[]⟩] 9)) 9 [.string ⟨#[]⟩]).alloc (.cells #[.slice (some ⟨w.heap.size + 1, 0, none⟩) 2 2, .slice (some ⟨w.heap.size + 1 + 1, 0, none⟩) 1 1] 24)
  have b3 := Blk.new (((w.alloc (.cells #[.int .u8 44, .int .u8 34, .int .i64 1] 23)).alloc (.cells #[.string ⟨#[97]⟩, .string ⟨#[]⟩] 9)).alloc (.cells #[.string ⟨#[]⟩] 9)) 24 [.slice (some ⟨w.heap.size + 1, 0, none⟩) 2 2, .slice (some ⟨w.heap.size + 1 + 1, 0, none⟩) 1 1]
  simp only [World.size_alloc] at b1 b2 b3
  exact ex_tbl (by omega) (by omega) (by omega) (b1.cell_of (i := 0) rfl) (b1.cell_of (i := 1) rfl) (b2.cell_of (i := 0) rfl) (b3.cell_of (i := 0) rfl) (b3.cell_of (i := 1) rfl)
set_option maxHeartbeats 2000000 in
theorem awake10_c (w : World) : Calls Try.prog 12 #[] w fun e w' => e = .returned (.bool true) ∧ Keeps [] w w' := by
  have hbx := Blk.new w 23 [.int .u8 44, .int .u8 34, .int .i64 1]
  have kp := (((Keeps.alloc [] w (.cells #[.int .u8 44, .int .u8 34, .int .i64 1] 23)).alloc1 (.cells #[.string ⟨#[97]⟩, .string ⟨#[]⟩] 9)).alloc1 (.cells #[.string ⟨#[]⟩] 9)).alloc1 (.cells #[.slice (some ⟨w.heap.size + 1, 0, none⟩) 2 2, .slice (some ⟨w.heap.size + 1 + 1, 0, none⟩) 1 1] 24)
  have HT := Lib.hid (table_c ⟨44, 34, 1⟩ _ [[[97], []], [[]]] _ _ (ex_world w) (by simp) (by decide) (by decide) (by decide))
  rw [ex_table] at HT
  unfold tableV at HT
  have HK := Lib.hid kp
  clear kp
  go_enter Try.func12, Try.ntmps12
  go_wp2_with (fail)
  refine HT.out.mono ?_
  rintro e w1 ⟨rfl, k1⟩
  go_wp2_with (fail)
  go_ret
  exact ⟨rfl, HK.out.trans k1 (by simp)⟩
set_option maxHeartbeats 1000000 in
theorem wide_c (w : World) : Calls Try.prog 20 #[] w fun e w' => e = .returned (.agg #[.int .i64 2147483648, .int .i64 2147483648, .int .i64 2147483648, .int .i64 0]) ∧ Keeps [] w w' := by
  have hb := Blk.new w 43 [.int .i64 2147483648, .int .i64 2147483648, .int .i64 2147483648, .int .i64 0]
  go_enter Try.func20, Try.ntmps20
  go_wp2_with (fail)
  refine bodyPost_ret (v := .agg #[.int .i64 2147483648, .int .i64 2147483648, .int .i64 2147483648, .int .i64 0]) (by simp [results, Try.results20, go_sem]) rfl ⟨rfl, ?_⟩
  exact Keeps.alloc [] w _
theorem front_bad : ∀ (t : Tb), Wr.front t < t.length → Wr.may (t.getD (Wr.front t) []) ≠ 0
  | [], h => by simp at h
  | r :: t, h => by
    unfold Wr.front at h ⊢
    simp only [List.takeWhile] at h ⊢
    cases hr : (Wr.may r == 0)
    · simp only [List.length_nil]
      simpa [List.getD] using hr
    · rw [hr] at h
      simp only [List.length_cons] at h ⊢
      have := front_bad t (by unfold Wr.front; omega)
      unfold Wr.front at this
      simpa [List.getD] using this
/-- A table that may be written. -/
theorem table_ok {d : Dia} {t : Tb} (h : (tableR d t).2.2 = 0) : d.right = true ∧ tableR d t = (Wr.textB d true t, t.length, 0) ∧ ∀ r ∈ t, Wr.may r = 0 := by
  unfold tableR at h ⊢
  cases hr : d.right
  · rw [hr] at h; simp at h
  · rw [hr] at h
    simp only [if_true] at h ⊢
    by_cases hf : Wr.front t < t.length
    · rw [if_pos hf] at h
      exact absurd h (front_bad t hf)
    · rw [if_neg hf]
      have := Wr.front_le t
      exact ⟨trivial, rfl, Wr.front_full (by omega)⟩
def endsB (s e : Bs) : Bool := s == [] || (decide (e.length ≤ s.length) && (s.drop (s.length - e.length) == e))
set_option maxHeartbeats 1000000 in
theorem ends_c (s e : Bs) (hs : s.length ≤ 1000000) (he : e.length ≤ 1000000) (w : World) : Calls Try.prog 22 #[sv s, sv e] w fun r w' => r = .returned (.bool (endsB s e)) ∧ w' = w := by
  unfold endsB
  obtain ⟨E0, hE0⟩ : ∃ E, (s == []) = E := ⟨_, rfl⟩
  rw [hE0]
  cases E0
  · by_cases hl : e.length ≤ s.length
    · have hsl : ∀ w, (Instr.sliceAt 9 (sv s) (some (.int .i64 ((s.length : Int) - (e.length : Int)))) none none).run Try.prog w = .ok (sv (s.drop (s.length - e.length))) w := by
        intro w
        have := run_strFrom (P := Try.prog) Try.underlying9 s (s.length - e.length) (by omega) w
        rw [Int.ofNat_sub hl] at this
        exact this
      have hwr : IntKind.i64.wrap ((s.length : Int) - (e.length : Int)) = (s.length : Int) - (e.length : Int) := IntWalk.i64_in _ (by omega)
      have hd : decide (e.length ≤ s.length) = true := by simp [hl]
      rw [hd]
      generalize s.drop (s.length - e.length) = T at *
      obtain ⟨Q, hQ⟩ : ∃ Q, (T == e) = Q := ⟨_, rfl⟩
      rw [hQ]
      cases Q
      all_goals
        go_enter Try.func22, Try.ntmps22
        go_wp2_with (with_reducible refine wpList_slice (hsl _) _ _ _ _ rfl rfl rfl rfl rfl rfl ?_)
        go_ret
        exact ⟨rfl, rfl⟩
    · have hd : decide (e.length ≤ s.length) = false := by simp [hl]
      rw [hd]
      go_enter Try.func22, Try.ntmps22
      go_wp2_with (fail)
      go_ret
      exact ⟨rfl, rfl⟩
  · go_enter Try.func22, Try.ntmps22
    go_wp2_with (fail)
    go_ret
    exact ⟨rfl, rfl⟩
theorem ends_closed {d : Dia} {s : Bs} (h : endsB s (Wr.eol d) = true) : Wr.Closed s := by
  unfold endsB at h
  rw [Bool.or_eq_true, beq_iff_eq, Bool.and_eq_true, decide_eq_true_iff, beq_iff_eq] at h
  rcases h with h | ⟨h1, h2⟩
  · exact .inl h
  · right
    have h3 : (Wr.eol d).getLast? = some 10 := by unfold Wr.eol; split <;> rfl
    rw [← h2, List.getLast?_drop, if_neg] at h3
    · exact h3
    · unfold Wr.eol at h1 ⊢
      split at h1 <;> simp_all <;> omega
end Go.Proofs.Ytcmoldondflilaa.WLine
