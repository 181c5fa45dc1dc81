/- need.Fields, the law package's one and few, the document's example of layer 8. -/
import Derived.Test.YtpbmengaaagbkaaNeed
import Derived.Deep.RegionHeld3
namespace Go.Proofs.Ytpbmengaaagbkaa.Need
set_option linter.unusedVariables false
set_option linter.unusedSimpArgs false
open Go.RowKit Q Mach Dia Bom

theorem Try.infoBool : (Try.prog.info? 4).map (fun i => (i.zero, i.size, i.bytes)) = some (some (.bool false), 1, 1) := by kernel_rfl

set_option maxHeartbeats 400000 in
theorem one_c (b : Bool) (w : World) : Calls Try.prog 15 #[.bool b] w fun e w' => e = .returned (.int .i64 (if b then 1 else 0)) ∧ Keeps [] w w' := by
  cases b
  all_goals
    go_enter Try.func15, Try.ntmps15
    go_wp2_with (fail)
    go_ret
    exact ⟨rfl, Keeps.refl _ _⟩
def rowBytes (r : Row) : Nat := (r.map List.length).sum
theorem rowBytes_take (r : Row) (k : Nat) (h : k < r.length) : rowBytes (r.take (k + 1)) = rowBytes (r.take k) + r[k].length := by
  unfold rowBytes; rw [List.take_succ_eq_append_getElem h, List.map_append, List.sum_append]; simp
def FewPost (r : Row) (w : World) (e : Ending) (w' : World) : Prop := ∃ b, e = .returned (.bool b) ∧ (b = true → r.length ≤ 20 ∧ rowBytes r ≤ 400) ∧ w = w'
set_option maxHeartbeats 400000 in
theorem few_c (A : Value) (r : Row) (B1 : Nat) (w : World) (hr : Rd w B1 1 A r.length (r.map sv)) (hl : ∀ s ∈ r, s.length ≤ reachBytes) : Calls Try.prog 18 #[A] w (FewPost r w) := by
  obtain ⟨A, ca, rfl, ha1, ha2⟩ := hr.form
  unfold maxLen at ha2
  by_cases h20 : 20 < r.length
  · go_enter Try.func18, Try.ntmps18
    go_wp2_with (fail)
    go_ret
    exact ⟨false, rfl, by simp, rfl⟩
  · have h20' : decide (20 < (r.length : Int)) = false := by simp; omega
    go_enter Try.func18, Try.ntmps18
    go_wp2_with (fail)
    go_loop [3, 11] (fun n i => ∃ k : Nat, k ≤ r.length ∧ i = .int .i64 k ∧ n = .int .i64 (rowBytes (r.take k)) ∧ rowBytes (r.take k) ≤ 400) (fun _ i => r.length - (intOf i).toNat)
    case atStart => exact ⟨0, by omega, rfl, rfl, by simp [rowBytes]⟩
    case round =>
      obtain ⟨k, hk, rfl, rfl, hb⟩ := hrel
      by_cases hlt : k < r.length
      · obtain ⟨g, o, rfl, _, c1⟩ := hr.str_at hlt
        have hsl := hl _ (List.getElem_mem hlt)
        unfold reachBytes at hsl
        have HB := Lib.hid (rowBytes_take r k hlt)
        generalize rowBytes (r.take k) = n at *
        generalize r[k] = s at *
        by_cases h4 : 400 < n + s.length
        · go_wp2_with (fail)
          go_ret
          exact ⟨false, rfl, by simp, rfl⟩
        · have h4' : decide (400 < (n : Int) + (s.length : Int)) = false := by simp; omega
          go_wp2_with (fail)
          go_round
          case rel => exact ⟨k + 1, by omega, by go_num, by rw [HB.out]; go_num, by rw [HB.out]; omega⟩
          case measure => simp [intOf]; omega
      · obtain rfl : k = r.length := by omega
        go_wp2_with (fail)
        go_ret
        rw [List.take_length] at hb
        exact ⟨true, rfl, fun _ => ⟨by omega, hb⟩, rfl⟩
/-- Must the field at a place be quoted? -/
def needAt (d : Dia) (r : Row) (first : Bool) (k : Nat) : Bool := whyB d (r.getD k []) (r.length == 1) (first && k == 0) != 0
def needL (d : Dia) (r : Row) (first : Bool) : List Bool := (List.range r.length).map (needAt d r first)
theorem needL_len (d : Dia) (r : Row) (first : Bool) : (needL d r first).length = r.length := by simp [needL]
theorem needL_step (d : Dia) (r : Row) (first : Bool) (k : Nat) (hk : k < r.length) :
    ((((needL d r first).map Value.bool).take k ++ List.replicate (r.length - k) (Value.bool false)).set k (Value.bool (needAt d r first k))) = ((needL d r first).map Value.bool).take (k + 1) ++ List.replicate (r.length - (k + 1)) (Value.bool false) := by
  have hl : (((needL d r first).map Value.bool).take k).length = k := by simp [needL]; omega
  rw [List.set_append_right _ _ (by omega), hl, Nat.sub_self]
  have h1 : r.length - k = (r.length - (k + 1)) + 1 := by omega
  rw [h1, List.replicate_succ, List.set_cons_zero, List.take_succ_eq_append_getElem (by simp [needL]; exact hk)]
  simp [needL]
def FieldsPost (d : Dia) (r : Row) (first : Bool) (w : World) (e : Ending) (w' : World) : Prop :=
  ∃ v, e = .returned v ∧ Own w' w.heap.size 4 1 v r.length ((needL d r first).map Value.bool) ∧ Keeps [] w w'
set_option maxHeartbeats 1000000 in
theorem fields_c (d : Dia) (A : Value) (r : Row) (first : Bool) (B1 : Nat) (w : World) (hr : Rd w B1 1 A r.length (r.map sv)) (hB : B1 ≤ w.heap.size) (hl : r.length ≤ 100000) (hs : ∀ s ∈ r, s.length ≤ reachBytes) :
    Calls Try.prog 19 #[diaV d, A, .bool first] w (FieldsPost d r first w) := by
  obtain ⟨iB, hiB, hB0, hB1, hB2⟩ := info_parts Try.infoBool
  have hr' := hr
  obtain ⟨A, ca, rfl, ha1, ha2⟩ := hr.form
  have HN := Lib.hid (fun (f : Bs) (al fi : Bool) (h : f.length ≤ maxLen) w => need_c d f al fi h w)
  obtain ⟨al, hal⟩ : ∃ al, ((r.length : Int) == 1) = al := ⟨_, rfl⟩
  have HAL := Lib.hid (show (r.length == 1) = al by rw [← hal, Bool.eq_iff_iff, beq_iff_eq, beq_iff_eq]; omega)
  have HAT := Lib.hid (fun k hk => needL_step d r first k hk)
  have HDE := Lib.hid (fun k => show needAt d r first k = (whyB d (r.getD k []) (r.length == 1) (first && k == 0) != 0) from rfl)
  generalize hL : (needL d r first).map Value.bool = L at *
  have HLL := Lib.hid (show L.length = r.length by rw [← hL]; simp [needL])
  have hbx := Blk.new w 23 [bv d.delim, bv d.quote, .int .i64 d.fin]
  have kbx : Keeps [] w (w.alloc (.cells #[bv d.delim, bv d.quote, .int .i64 d.fin] 23)) := Keeps.alloc [] w _
  obtain ⟨w1, hmk, hb1, hk1, hz1, _⟩ := run_mk (P := Try.prog) Try.underlying36 hiB hB0 hB1 rfl r.length r.length (Nat.le_refl _) (by rw [hB2]; omega) (by simp only [maxLen]; omega) (w.alloc (.cells #[bv d.delim, bv d.quote, .int .i64 d.fin] 23))
  have hsz : (w.alloc (.cells #[bv d.delim, bv d.quote, .int .i64 d.fin] 23)).heap.size = w.heap.size + 1 := by simp
  rw [hsz] at hb1 hmk hz1
  have hd1 := hbx.keep hk1 (by simp)
  have kw1 := kbx.trans hk1 (by simp)
  clear hsz hbx kbx hk1
  have HLL2 := Lib.hid hL; clear hL
  obtain ⟨x, y, z⟩ := d
  go_enter Try.func19, Try.ntmps19
  go_wp2_with (refine wpList_make hmk _ _ rfl rfl rfl rfl ?_)
  clear hmk
  go_loopw [15] (fun i wr => ∃ k : Nat, k ≤ r.length ∧ i = .int .i64 k ∧ Blk wr (w.heap.size + 1) 4 (L.take k ++ List.replicate (r.length - k) (.bool false)) ∧ Blk wr w.heap.size 23 [bv x, bv y, .int .i64 z] ∧ Keeps [] w wr) (fun i _ => r.length - (intOf i).toNat)
  case atStart => exact ⟨0, by omega, rfl, by simpa using hb1, hd1, kw1⟩
  case round =>
    obtain ⟨k, hk, rfl, hb, hd, kw⟩ := hrel
    by_cases hlt : k < r.length
    · have hrw := hr'.keepB kw (by simp)
      obtain ⟨g, o, rfl, _, c1⟩ := hrw.str_at hlt
      have hsl := hs _ (List.getElem_mem hlt)
      unfold reachBytes at hsl
      have d0 := hd.cell 0
      have d1 := hd.cell 1
      have d2 := hd.cell 2
      simp only [List.getElem?_cons_zero, List.getElem?_cons_succ] at d0 d1 d2
      obtain ⟨fi, hfi⟩ : ∃ fi : Bool, (first && k == 0) = fi := ⟨_, rfl⟩
      have hde := HDE.out k
      rw [hfi, HAL.out, show r.getD k [] = r[k] by simp [List.getD, List.getElem?_eq_getElem hlt]] at hde
      have HNk := Lib.hid (HN.out r[k] al fi (by simp only [maxLen]; omega))
      rw [← hde] at HNk
      have hset0 := HAT.out k hlt
      have HNS := Lib.hid (fun w2 (h2 : Blk w2 (w.heap.size + 1) 4 (L.take k ++ List.replicate (r.length - k) (.bool false))) => (show Blk (w2.setCell ⟨w.heap.size + 1, k, none⟩ (.bool (needAt ⟨x, y, z⟩ r first k))) (w.heap.size + 1) 4 (L.take (k + 1) ++ List.replicate (r.length - (k + 1)) (.bool false)) from by
        have := h2.set_ k (.bool (needAt ⟨x, y, z⟩ r first k)); rw [hset0] at this; exact this))
      generalize needAt ⟨x, y, z⟩ r first k = q at *
      have hlen : (L.take k ++ List.replicate (r.length - k) (Value.bool false)).length = r.length := by have := HLL.out; simp; omega
      have e0 : (0 : Int) ≤ (k : Int) := by omega
      have e1 : (k : Int) < (r.length : Int) := by omega
      have HFI := Lib.hid hfi
      clear hde hset0
      generalize r[k] = s at *
      by_cases hk0 : k = 0
      · have hk0' : ((k : Int) == 0) = true := by simp [hk0]
        have hff : first = fi := by rw [← hfi, hk0]; simp
        have HK0 := Lib.hid hk0; clear hk0 hfi
        subst hff
        cases first
        all_goals
          go_wp2_with (fail)
          refine (HNk.out _).mono ?_
          rintro e w3 ⟨rfl, k3⟩
          have hb3 := hb.keep k3 (by simp)
          obtain ⟨u0, hu0⟩ : ∃ u0, (L.take k ++ List.replicate (r.length - k) (Value.bool false))[k]? = some u0 := ⟨_, List.getElem?_eq_getElem (by rw [hlen]; exact hlt)⟩
          have c3 := hb3.cell_of hu0
          have f3 := hb3.frozen (i := k) (by rw [hlen]; exact hlt)
          have hset := HNS.out w3 hb3
          have hd3 := (hd.keep k3 (by simp)).far (p := ⟨w.heap.size + 1, k, none⟩) (by show w.heap.size ≠ w.heap.size + 1; omega) (.bool q)
          have kw3 := (kw.trans k3 (by simp)).set1 ⟨w.heap.size + 1, k, none⟩ (.bool q) (by simp)
          clear hu0 hb3 hb
          go_wp2_with (fail)
          go_roundw
          case rel => exact ⟨k + 1, by omega, by go_num, hset, hd3, kw3⟩
          case measure => simp [intOf]; omega
      · have hk0' : ((k : Int) == 0) = false := by rw [beq_eq_false_iff_ne]; omega
        have hff : fi = false := by rw [← hfi]; simp [hk0]
        have HK0 := Lib.hid hk0; clear hk0 hfi
        subst hff
        cases first
        all_goals
          go_wp2_with (fail)
          refine (HNk.out _).mono ?_
          rintro e w3 ⟨rfl, k3⟩
          have hb3 := hb.keep k3 (by simp)
          obtain ⟨u0, hu0⟩ : ∃ u0, (L.take k ++ List.replicate (r.length - k) (Value.bool false))[k]? = some u0 := ⟨_, List.getElem?_eq_getElem (by rw [hlen]; exact hlt)⟩
          have c3 := hb3.cell_of hu0
          have f3 := hb3.frozen (i := k) (by rw [hlen]; exact hlt)
          have hset := HNS.out w3 hb3
          have hd3 := (hd.keep k3 (by simp)).far (p := ⟨w.heap.size + 1, k, none⟩) (by show w.heap.size ≠ w.heap.size + 1; omega) (.bool q)
          have kw3 := (kw.trans k3 (by simp)).set1 ⟨w.heap.size + 1, k, none⟩ (.bool q) (by simp)
          clear hu0 hb3 hb
          go_wp2_with (fail)
          go_roundw
          case rel => exact ⟨k + 1, by omega, by go_num, hset, hd3, kw3⟩
          case measure => simp [intOf]; omega
    · obtain rfl : k = r.length := by omega
      go_wp2_with (fail)
      go_ret
      refine ⟨_, rfl, ?_, kw⟩
      rw [HLL2.out]
      rw [Nat.sub_self, List.replicate_zero, List.append_nil, List.take_of_length_le (by rw [HLL.out]; exact Nat.le_refl _)] at hb
      exact own_blk (post := []) (by simpa using hb) HLL.out (by omega) (Nat.le_refl _) (by simp only [maxLen]; omega) (by simp [HLL.out])
theorem rd_cells1 {w : World} {g : Nat} {u : Value} (h : w.cell? ⟨g, 0, none⟩ = some u) : Rd w w.heap.size 1 (.slice (some ⟨g, 0, none⟩) 1 1) 1 [u] :=
  ⟨_, _, rfl, Nat.le_refl _, by simp [maxLen], rfl, .inr ⟨g, 0, rfl, World.block_lt_of_cell? _ _ h, fun j x hx => by
    match j, hx with
    | 0, hx => simp at hx; subst hx; simpa using h⟩⟩
theorem rd_cells2 {w : World} {g : Nat} {u v : Value} (h : w.cell? ⟨g, 0, none⟩ = some u) (h2 : w.cell? ⟨g, 1, none⟩ = some v) : Rd w w.heap.size 1 (.slice (some ⟨g, 0, none⟩) 2 2) 2 [u, v] :=
  ⟨_, _, rfl, Nat.le_refl _, by simp [maxLen], rfl, .inr ⟨g, 0, rfl, World.block_lt_of_cell? _ _ h, fun j x hx => by
    match j, hx with
    | 0, hx => simp at hx; subst hx; simpa using h
    | 1, hx => simp at hx; subst hx; simpa using h2⟩⟩
theorem ex1 : needL ⟨44, 34, 1⟩ [[]] false = [true] := by decide
theorem ex2 : needL ⟨44, 34, 1⟩ [[], []] false = [false, false] := by decide
theorem fields1 (g : Nat) (w : World) (h : w.cell? ⟨g, 0, none⟩ = some (sv [])) : Calls Try.prog 19 #[.agg #[.int .u8 44, .int .u8 34, .int .i64 1], .slice (some ⟨g, 0, none⟩) 1 1, .bool false] w fun e w' => ∃ v, e = .returned v ∧ Own w' w.heap.size 4 1 v 1 [.bool true] ∧ Keeps [] w w' := by
  refine (fields_c ⟨44, 34, 1⟩ _ [[]] false w.heap.size w (rd_cells1 h) (Nat.le_refl _) (by simp) (by simp [reachBytes])).mono ?_
  rintro e w' ⟨v, h1, h2, h3⟩
  rw [ex1] at h2
  exact ⟨v, h1, h2, h3⟩
theorem fields2 (g : Nat) (w : World) (h : w.cell? ⟨g, 0, none⟩ = some (sv [])) (h2 : w.cell? ⟨g, 1, none⟩ = some (sv [])) : Calls Try.prog 19 #[.agg #[.int .u8 44, .int .u8 34, .int .i64 1], .slice (some ⟨g, 0, none⟩) 2 2, .bool false] w fun e w' => ∃ v, e = .returned v ∧ Own w' w.heap.size 4 1 v 2 [.bool false, .bool false] ∧ Keeps [] w w' := by
  refine (fields_c ⟨44, 34, 1⟩ _ [[], []] false w.heap.size w (rd_cells2 h h2) (Nat.le_refl _) (by simp) (by simp [reachBytes])).mono ?_
  rintro e w' ⟨v, h1, h2, h3⟩
  rw [ex2] at h2
  exact ⟨v, h1, h2, h3⟩
set_option maxHeartbeats 2000000 in
theorem awake_c (w : World) : Calls Try.prog 13 #[] w fun e w' => e = .returned (.bool true) ∧ Keeps [] w w' := by
  have kp : Keeps [] w (w.alloc (.cells #[.int .u8 44, .int .u8 34, .int .i64 1] 23)) := Keeps.alloc [] w _
  have hbx := Blk.new w 23 [.int .u8 44, .int .u8 34, .int .i64 1]
  go_enter Try.func13, Try.ntmps13
  go_wp2_with (fail)
  have c0 := hbx.cell 0
  have c1 := hbx.cell 1
  have c2 := hbx.cell 2
  have hlt := hbx.lt
  simp only [List.getElem?_cons_zero, List.getElem?_cons_succ] at c0 c1 c2
  generalize w.alloc (.cells #[.int .u8 44, .int .u8 34, .int .i64 1] 23) = w1 at *
  go_region_held3 (fun w' => w'.cell? ⟨w.heap.size, 0, none⟩ = some (.int .u8 44) ∧ w'.cell? ⟨w.heap.size, 1, none⟩ = some (.int .u8 34) ∧ w'.cell? ⟨w.heap.size, 2, none⟩ = some (.int .i64 1) ∧ w.heap.size < w'.heap.size ∧ Keeps [] w w') (first | exact ⟨c0, c1, c2, hlt, kp.drew1⟩ | exact ⟨c0, c1, c2, hlt, kp⟩ | (go_split_ands; exact ⟨((Keeps.alloc [] _ _).cell (p := ⟨w.heap.size, 0, none⟩) (by assumption) (by simp)).trans (by assumption), ((Keeps.alloc [] _ _).cell (p := ⟨w.heap.size, 1, none⟩) (by assumption) (by simp)).trans (by assumption), ((Keeps.alloc [] _ _).cell (p := ⟨w.heap.size, 2, none⟩) (by assumption) (by simp)).trans (by assumption), Nat.lt_of_lt_of_le (by assumption) (Keeps.alloc [] _ _).size, Keeps.trans (by assumption) (Keeps.alloc [] _ _) (by simp)⟩) | (go_split_ands; exact ⟨(hk.cell (p := ⟨w.heap.size, 0, none⟩) (by assumption) (by simp)).trans (by assumption), (hk.cell (p := ⟨w.heap.size, 1, none⟩) (by assumption) (by simp)).trans (by assumption), (hk.cell (p := ⟨w.heap.size, 2, none⟩) (by assumption) (by simp)).trans (by assumption), Nat.lt_of_lt_of_le (by assumption) hk.size, Keeps.trans (by assumption) hk (by simp)⟩)) (first | (go_at_call 19; (with_reducible refine (fields1 _ _ ?_).mono ?_); (focus (first | (simp; done) | exact (hk.cell (p := ⟨_, _, none⟩) (by simp <;> omega) (by simp)).trans (by simp))); rintro e wA ⟨v1, rfl, ho1, hk⟩; obtain ⟨A1, n1, hv1, _⟩ := ho1.form; subst hv1) | (go_at_call 19; (with_reducible refine (fields2 _ _ ?_ ?_).mono ?_); (focus (first | (simp; done) | exact (hk.cell (p := ⟨_, _, none⟩) (by simp <;> omega) (by simp)).trans (by simp))); (focus (first | (simp; done) | exact (hk.cell (p := ⟨_, _, none⟩) (by simp <;> omega) (by simp)).trans (by simp))); rintro e wB ⟨v2, rfl, ho2, hk⟩; obtain ⟨A2, n2, hv2, _⟩ := ho2.form; subst hv2))
  all_goals
    have hk1 : Keeps [] wA wB := by first | exact hk | exact (Keeps.alloc [] _ _).trans hk (by simp) | exact Keeps.trans (Keeps.drew [] _) hk (by simp)
    have ho1' := ho1.keep hk1 (by simp)
    obtain ⟨g1, o1, u1, rfl, _, _, hu1, cc1, _⟩ := ho1'.at_ (k := 0) (by omega)
    obtain ⟨g2, o2, u2, rfl, _, _, hu2, cc2, _⟩ := ho2.at_ (k := 0) (by omega)
    obtain ⟨g3, o3, u3, hA3, _, _, hu3, cc3, _⟩ := ho2.at_ (k := 1) (by omega)
    injection hA3 with hA3; injection hA3 with hA3 hA4; subst hA3 hA4
    simp only [List.getElem?_cons_zero, List.getElem?_cons_succ, Option.some.injEq] at hu1 hu2 hu3
    subst hu1 hu2 hu3
    simp only [Nat.add_zero] at cc1 cc2
    have kf : Keeps [] w wB := by go_split_ands; assumption
    clear ho1 ho2 ho1' hk1 hk
    go_wp2_with (fail)
    go_ret
    exact ⟨rfl, kf⟩
end Go.Proofs.Ytpbmengaaagbkaa.Need
