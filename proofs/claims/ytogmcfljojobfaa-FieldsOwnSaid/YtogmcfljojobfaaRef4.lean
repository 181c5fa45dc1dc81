/- The document's table of bytes: column, Step, Close; the law's Ref. -/
import Derived.Test.YtogmcfljojobfaaScan
namespace Go.Proofs.Ytogmcfljojobfaa.Ref4
set_option linter.unusedVariables false
set_option linter.unusedSimpArgs false
open Go.RowKit Q Mach Dia Scan

def col (d : Dia) (b : UInt8) : Nat := if b == d.quote then 0 else if b == d.delim then 1 else if b == 13 then 2 else if b == 10 then 3 else 4
def one (b : Bool) : Int := if b then 1 else 0
abbrev revV (e : Ev) : Value := .agg #[.int .i64 (one e.beg), .int .i64 (one e.add), .int .i64 (one e.fld), .int .i64 (one e.lin), .int .i64 (one e.rcd), .int .i64 e.b.toNat]
def rstepV (x : Ev × Nat × Nat) : Value := .tuple #[revV x.1, .int .i64 x.2.1, .int .i64 x.2.2]
def rcloseV (x : Ev × Nat) : Value := .tuple #[revV x.1, .int .i64 x.2]

set_option maxHeartbeats 1000000 in
theorem column_c (d : Dia) (b : UInt8) (w : World) : Calls Try.prog 36 #[rdiaV d, .int .i64 b.toNat] w fun e w' => e = .returned (.int .i64 (col d b)) ∧ Keeps [] w w' := by
  have hq := u8_beq b d.quote
  have hd := u8_beq b d.delim
  have h13 := u8_13 b
  have h10 := u8_10 b
  unfold col
  generalize (b == d.quote) = bq at *
  generalize (b == d.delim) = bd at *
  generalize (b == 13) = b13 at *
  generalize (b == 10) = b10 at *
  obtain ⟨x, y, z⟩ := d
  have kp : Keeps [] w (w.alloc (.cells #[.int .i64 x.toNat, .int .i64 y.toNat, .int .i64 z] 57)) := Keeps.alloc [] w _
  cases bq <;> cases bd <;> cases b13 <;> cases b10
  all_goals
    go_enter Try.func36, Try.ntmps36
    go_wp2_with (fail)
    go_ret
    exact ⟨rfl, kp⟩

theorem idx7 (st : Nat) (hst : st ≤ 6) (w : World) : (Instr.index 84 (.agg #[.int .i64 0, .int .i64 0, .int .i64 0, .int .i64 11, .int .i64 0, .int .i64 6, .int .i64 6]) (.int .i64 (st : Int))).run Try.prog w = .ok (.int .i64 ((closeEv st).2 : Int)) w := by
  match st, hst with
  | 0, _ => show _ = _; kernel_rfl
  | 1, _ => show _ = _; kernel_rfl
  | 2, _ => show _ = _; kernel_rfl
  | 3, _ => show _ = _; kernel_rfl
  | 4, _ => show _ = _; kernel_rfl
  | 5, _ => show _ = _; kernel_rfl
  | 6, _ => show _ = _; kernel_rfl
set_option maxHeartbeats 1000000 in
theorem rclose_c (st : Nat) (hst : st ≤ 6) (w : World) : Calls Try.prog 27 #[.int .i64 st] w fun e w' => e = .returned (rcloseV (closeEv st)) ∧ Keeps [] w w' := by
  match st, hst with
  | 0, _ =>
    have HJ : ∀ w, (Instr.index 84 (.agg #[.int .i64 0, .int .i64 0, .int .i64 0, .int .i64 11, .int .i64 0, .int .i64 6, .int .i64 6]) (.int .i64 0)).run Try.prog w = .ok (.int .i64 0) w := idx7 0 (by omega)
    go_enter Try.func27, Try.ntmps27
    go_wp2_with (fail)
    go_region
    all_goals go_wp2_with (fail)
    all_goals exact bodyPost_ret (v := rcloseV (closeEv 0)) (by simp [results, Try.results27, go_sem, rcloseV, closeEv, ev0, one]) rfl ⟨rfl, by first | exact (((Keeps.refl [] w).alloc1 _).alloc1 _).drew1 | exact ((((Keeps.refl [] w).alloc1 _).alloc1 _).drew1).drew1 | exact ((Keeps.refl [] w).drew1.alloc1 _).alloc1 _⟩
  | 1, _ =>
    have HJ : ∀ w, (Instr.index 84 (.agg #[.int .i64 0, .int .i64 0, .int .i64 0, .int .i64 11, .int .i64 0, .int .i64 6, .int .i64 6]) (.int .i64 1)).run Try.prog w = .ok (.int .i64 0) w := idx7 1 (by omega)
    go_enter Try.func27, Try.ntmps27
    go_wp2_with (fail)
    go_region
    all_goals go_wp2_with (fail)
    all_goals exact bodyPost_ret (v := rcloseV (closeEv 1)) (by simp [results, Try.results27, go_sem, rcloseV, closeEv, ev0, one]) rfl ⟨rfl, by first | exact (((Keeps.refl [] w).alloc1 _).alloc1 _).drew1 | exact ((((Keeps.refl [] w).alloc1 _).alloc1 _).drew1).drew1 | exact ((Keeps.refl [] w).drew1.alloc1 _).alloc1 _⟩
  | 2, _ =>
    have HJ : ∀ w, (Instr.index 84 (.agg #[.int .i64 0, .int .i64 0, .int .i64 0, .int .i64 11, .int .i64 0, .int .i64 6, .int .i64 6]) (.int .i64 2)).run Try.prog w = .ok (.int .i64 0) w := idx7 2 (by omega)
    go_enter Try.func27, Try.ntmps27
    go_wp2_with (fail)
    go_region
    all_goals go_wp2_with (fail)
    all_goals exact bodyPost_ret (v := rcloseV (closeEv 2)) (by simp [results, Try.results27, go_sem, rcloseV, closeEv, ev0, one]) rfl ⟨rfl, by first | exact (((Keeps.refl [] w).alloc1 _).alloc1 _).drew1 | exact ((((Keeps.refl [] w).alloc1 _).alloc1 _).drew1).drew1 | exact ((Keeps.refl [] w).drew1.alloc1 _).alloc1 _⟩
  | 3, _ =>
    have HJ : ∀ w, (Instr.index 84 (.agg #[.int .i64 0, .int .i64 0, .int .i64 0, .int .i64 11, .int .i64 0, .int .i64 6, .int .i64 6]) (.int .i64 3)).run Try.prog w = .ok (.int .i64 11) w := idx7 3 (by omega)
    go_enter Try.func27, Try.ntmps27
    go_wp2_with (fail)
    go_region
    all_goals go_wp2_with (fail)
    all_goals exact bodyPost_ret (v := rcloseV (closeEv 3)) (by simp [results, Try.results27, go_sem, rcloseV, closeEv, ev0, one]) rfl ⟨rfl, by first | exact (((Keeps.refl [] w).alloc1 _).alloc1 _).drew1 | exact ((((Keeps.refl [] w).alloc1 _).alloc1 _).drew1).drew1 | exact ((Keeps.refl [] w).drew1.alloc1 _).alloc1 _⟩
  | 4, _ =>
    have HJ : ∀ w, (Instr.index 84 (.agg #[.int .i64 0, .int .i64 0, .int .i64 0, .int .i64 11, .int .i64 0, .int .i64 6, .int .i64 6]) (.int .i64 4)).run Try.prog w = .ok (.int .i64 0) w := idx7 4 (by omega)
    go_enter Try.func27, Try.ntmps27
    go_wp2_with (fail)
    go_region
    all_goals go_wp2_with (fail)
    all_goals exact bodyPost_ret (v := rcloseV (closeEv 4)) (by simp [results, Try.results27, go_sem, rcloseV, closeEv, ev0, one]) rfl ⟨rfl, by first | exact (((Keeps.refl [] w).alloc1 _).alloc1 _).drew1 | exact ((((Keeps.refl [] w).alloc1 _).alloc1 _).drew1).drew1 | exact ((Keeps.refl [] w).drew1.alloc1 _).alloc1 _⟩
  | 5, _ =>
    have HJ : ∀ w, (Instr.index 84 (.agg #[.int .i64 0, .int .i64 0, .int .i64 0, .int .i64 11, .int .i64 0, .int .i64 6, .int .i64 6]) (.int .i64 5)).run Try.prog w = .ok (.int .i64 6) w := idx7 5 (by omega)
    go_enter Try.func27, Try.ntmps27
    go_wp2_with (fail)
    go_region
    all_goals go_wp2_with (fail)
    all_goals exact bodyPost_ret (v := rcloseV (closeEv 5)) (by simp [results, Try.results27, go_sem, rcloseV, closeEv, ev0, one]) rfl ⟨rfl, by first | exact (((Keeps.refl [] w).alloc1 _).alloc1 _).drew1 | exact ((((Keeps.refl [] w).alloc1 _).alloc1 _).drew1).drew1 | exact ((Keeps.refl [] w).drew1.alloc1 _).alloc1 _⟩
  | 6, _ =>
    have HJ : ∀ w, (Instr.index 84 (.agg #[.int .i64 0, .int .i64 0, .int .i64 0, .int .i64 11, .int .i64 0, .int .i64 6, .int .i64 6]) (.int .i64 6)).run Try.prog w = .ok (.int .i64 6) w := idx7 6 (by omega)
    go_enter Try.func27, Try.ntmps27
    go_wp2_with (fail)
    go_region
    all_goals go_wp2_with (fail)
    all_goals exact bodyPost_ret (v := rcloseV (closeEv 6)) (by simp [results, Try.results27, go_sem, rcloseV, closeEv, ev0, one]) rfl ⟨rfl, by first | exact (((Keeps.refl [] w).alloc1 _).alloc1 _).drew1 | exact ((((Keeps.refl [] w).alloc1 _).alloc1 _).drew1).drew1 | exact ((Keeps.refl [] w).drew1.alloc1 _).alloc1 _⟩
set_option maxHeartbeats 400000 in
theorem one_c (b : Bool) (w : World) : Calls Try.prog 32 #[.bool b] w fun e w' => e = .returned (.int .i64 (one b)) ∧ w' = w := by
  cases b
  all_goals
    go_enter Try.func32, Try.ntmps32
    go_wp2_with (fail)
    go_ret
    exact ⟨rfl, rfl⟩
end Go.Proofs.Ytogmcfljojobfaa.Ref4
