/- scan.Run: all bytes. -/
import Derived.Test.YtogmcfljojobfaaRef4T
import Derived.Test.YtogmcfljojobfaaOpen
import Derived.Test.YtogmcfljojobfaaKeep
namespace Go.Proofs.Ytogmcfljojobfaa.Scan
set_option linter.unusedVariables false
set_option linter.unusedSimpArgs false
open Go.RowKit Q Mach Dia
attribute [local go_sem ↓] Go.wp_at_zero Go.wp_at_succ

theorem run_append_blk {P : Program} {w : World} {base size bytes n : Nat} {t e : TypeId} {i : TypeInfo} {z v : Value} {xs ys : List Value} (ht : P.underlying t = some (.slice e)) (hi : P.info? e = some i) (hz : i.zero = some z)
    (hsize : i.size = size) (hby : i.bytes = bytes) (hzs : z.cells.size = size) (hown : Own w base e size v n xs) (hy : ys.length = size) (h1 : ∀ y ∈ ys, y.oneCell' = true) (h63 : n + 1 ≤ maxLen) (hbytes : (n + 1) * bytes ≤ 140737488355328) (hbase : base ≤ w.heap.size) (ty : TypeId) :
    ∃ v' w', (Builtin.append_ #[t, t] ty #[v, .slice (some ⟨w.heap.size, 0, none⟩) 1 1]).run P (w.alloc (.cells ys.toArray e)) = .ok v' w' ∧ Own w' base e size v' (n + 1) (xs ++ ys) ∧ Keeps (blkOf v) w w' ∧ ∀ k ∈ blkOf v', k ∈ blkOf v ∨ w.heap.size ≤ k := by
  have hs : Src P (w.alloc (.cells ys.toArray e)) t e size (.slice (some ⟨w.heap.size, 0, none⟩) 1 1) 1 ys :=
    ⟨by simp [hy], .inl ⟨ht, _, 1, rfl, .inr ⟨w.heap.size, 0, rfl, fun j y hj => by rw [Nat.zero_add]; exact (Blk.new w e ys).cell_of hj⟩⟩⟩
  obtain ⟨v', w', h2, h3, h4, h5⟩ := run_append (P := P) (w := w.alloc (.cells ys.toArray e)) (base := base) (u := t) (ty := ty) ht hi hz hsize hby hzs (hown.keep (Keeps.alloc [] w _) (by simp)) hs h1 h63 hbytes (by simp; omega)
  exact ⟨v', w', h2, h3, (Keeps.alloc (blkOf v) w _).trans h4 (fun _ h _ => h), fun k hk => (h5 k hk).imp id (by intro e; simp at e; omega)⟩

def evC (e : Ev) : List Value := [.bool e.beg, .bool e.add, .bool e.fld, .bool e.lin, .bool e.rcd, bv e.b]
def runE (d : Dia) (st : Nat) (l : List UInt8) (i : Nat) : List Ev × Nat × Nat :=
  match l with
  | [] => if (closeEv st).2 != 0 then ([], (closeEv st).2, i) else ([(closeEv st).1], 0, 0)
  | b :: r => if (Mach.step d st b).2.2 != 0 then ([], (Mach.step d st b).2.2, i) else ((Mach.step d st b).1 :: (runE d (Mach.step d st b).2.1 r (i + 1)).1, (runE d (Mach.step d st b).2.1 r (i + 1)).2)
def RunPost (d : Dia) (l : List UInt8) (w : World) (e : Ending) (w' : World) : Prop :=
  ∃ v, e = .returned (.tuple #[v, .agg #[.int .i64 (runE d 0 l 0).2.1, .int .i64 (runE d 0 l 0).2.2]]) ∧ Own w' w.heap.size 38 6 v (runE d 0 l 0).1.length ((runE d 0 l 0).1.flatMap evC) ∧ Keeps [] w w'
theorem infoEvent : (Try.prog.info? 38).map (fun i => (i.zero, i.size, i.bytes)) = some (some (.agg #[.bool false, .bool false, .bool false, .bool false, .bool false, .int .u8 0]), 6, 6) := by kernel_rfl
theorem step_le (d : Dia) (st : Nat) (b : UInt8) (h : st ≤ 6) : (Mach.step d st b).2.1 ≤ 6 := by
  unfold Mach.step atStart inRecord
  repeat' split
  all_goals simp

set_option maxHeartbeats 1000000 in
theorem run_c (d : Dia) (l : List UInt8) (hl : l.length ≤ 1000000) (w : World) : Calls Try.prog 28 #[diaV d, sv l] w (RunPost d l w) := by
  obtain ⟨iE, hiE, hE0, hE1, hE2⟩ := info_parts infoEvent
  have HS := Lib.hid (fun st (hst : st ≤ 6) b w => step_c d st hst b w)
  have HC := Lib.hid (fun st (hst : st ≤ 6) w => close_c st hst w)
  have HL := Lib.hid (fun st b hst => step_le d st b hst)
  have hbx := (Blk.new w 54 [bv d.delim, bv d.quote, .int .i64 d.fin]).alloc (.cells #[.int .i64 0, .int .i64 0] 70)
  have kp := (Keeps.alloc [] w (.cells #[bv d.delim, bv d.quote, .int .i64 d.fin] 54)).alloc1 (.cells #[.int .i64 0, .int .i64 0] 70)
  have hre := Blk.new (w.alloc (.cells #[bv d.delim, bv d.quote, .int .i64 d.fin] 54)) 70 [.int .i64 0, .int .i64 0]
  rw [show (w.alloc (.cells #[bv d.delim, bv d.quote, .int .i64 d.fin] 54)).heap.size = w.heap.size + 1 by simp] at hre
  have hsz0 : (w.alloc (.cells #[bv d.delim, bv d.quote, .int .i64 d.fin] 54)).heap.size = w.heap.size + 1 := by simp
  obtain ⟨x, y, z⟩ := d
  go_enter Try.func28, Try.ntmps28
  go_wp2_with (fail)
  generalize (w.alloc (.cells #[bv x, bv y, .int .i64 z] 54)).alloc (.cells #[.int .i64 0, .int .i64 0] 70) = w0 at *
  go_loopw [6, 7, 16] (fun v s i wr => ∃ (k st : Nat) (es : List Ev), k ≤ l.length ∧ st ≤ 6 ∧ i = .int .i64 k ∧ s = .int .i64 st ∧ es.length = k ∧ Own wr w.heap.size 38 6 v k (es.flatMap evC) ∧ Blk wr w.heap.size 54 [bv x, bv y, .int .i64 z] ∧ Blk wr (w.heap.size + 1) 70 [.int .i64 0, .int .i64 0] ∧ Keeps [] w wr ∧ runE ⟨x, y, z⟩ 0 l 0 = (es ++ (runE ⟨x, y, z⟩ st (l.drop k) k).1, (runE ⟨x, y, z⟩ st (l.drop k) k).2)) (fun _ _ i _ => l.length - (intOf i).toNat)
  case atStart => exact ⟨0, 0, [], by omega, by omega, rfl, rfl, rfl, by simpa using Own.nil_ w0 w.heap.size 38 6, hbx, hre, kp, by simp⟩
  case round =>
    obtain ⟨k, st, es, hk, hst, rfl, rfl, hes, hown, hb1, hr1, hkp, hrun0⟩ := hrel
    have HR := Lib.hid hrun0
    clear hrun0 hbx hre kp
    by_cases hlt : k < l.length
    · have hi := str_idx (P := Try.prog) Try.underlying9 l k l[k] (List.getElem?_eq_getElem hlt)
      have HX := Lib.hid (fun w => HS.out st hst l[k] w)
      have hle := HL.out st l[k] hst
      have hrec : runE ⟨x, y, z⟩ st (l.drop k) k = if (Mach.step ⟨x, y, z⟩ st l[k]).2.2 != 0 then ([], (Mach.step ⟨x, y, z⟩ st l[k]).2.2, k) else ((Mach.step ⟨x, y, z⟩ st l[k]).1 :: (runE ⟨x, y, z⟩ (Mach.step ⟨x, y, z⟩ st l[k]).2.1 (l.drop (k + 1)) (k + 1)).1, (runE ⟨x, y, z⟩ (Mach.step ⟨x, y, z⟩ st l[k]).2.1 (l.drop (k + 1)) (k + 1)).2) := by
        rw [List.drop_eq_getElem_cons hlt]; rfl
      have HE := Lib.hid hrec
      clear hrec HS HC HL
      generalize hX : Mach.step ⟨x, y, z⟩ st l[k] = X at *
      clear hX
      obtain ⟨⟨e1, e2, e3, e4, e5, e6⟩, s, r⟩ := X
      generalize hb : l[k] = b at *
      clear hb
      have c0 := hb1.cell 0
      have c1 := hb1.cell 1
      have c2 := hb1.cell 2
      simp only [List.getElem?_cons_zero, List.getElem?_cons_succ] at c0 c1 c2
      have hkl : (k : Int) < (l.length : Int) := by omega
      have hk0 : (0 : Int) ≤ (k : Int) := by omega
      have hlt3 := hr1.lt
      have hne3 : w.heap.size ≠ wr.heap.size := by omega
      simp only [stepV] at HX
      go_upto_region 6 with (fail)
      go_cut [9, 10, 11] (fun v9 v10 v11 wx => ∃ g : Nat, v9 = .pointer (some ⟨g, 0, none⟩) ∧ wr.heap.size ≤ g ∧ Blk wx g 38 [.bool e1, .bool e2, .bool e3, .bool e4, .bool e5, bv e6] ∧ v10 = .int .i64 s ∧ v11 = .int .i64 r ∧ Keeps [] wr wx)
      case first =>
        clear HR HE hown hkp hr1 hb1 hle hes hsz0 hiE hE0 hE1 hE2 hst hl hk
        have HSl : w.heap.size + 1 < wr.heap.size := hlt3
        have HS := fun w' (hb : Below (w.heap.size + 1) (wr) w') => ((⟨(hb.cell (p := ⟨w.heap.size, 0, none⟩) (Nat.lt_succ_self _)).trans (c0), (hb.cell (p := ⟨w.heap.size, 1, none⟩) (Nat.lt_succ_self _)).trans (c1), (hb.cell (p := ⟨w.heap.size, 2, none⟩) (Nat.lt_succ_self _)).trans (c2), hb⟩) : w'.cell? ⟨w.heap.size, 0, none⟩ = some (bv x) ∧ w'.cell? ⟨w.heap.size, 1, none⟩ = some (bv y) ∧ w'.cell? ⟨w.heap.size, 2, none⟩ = some (.int .i64 z) ∧ Below (w.heap.size + 1) (wr) w')
        have HSb : w.heap.size + 1 ≤ (wr).heap.size := Nat.le_of_lt hlt3
        go_region_held3 (fun w' => w'.cell? ⟨w.heap.size, 0, none⟩ = some (bv x) ∧ w'.cell? ⟨w.heap.size, 1, none⟩ = some (bv y) ∧ w'.cell? ⟨w.heap.size, 2, none⟩ = some (.int .i64 z) ∧ Below (w.heap.size + 1) (wr) w') (((try go_split_ands); (with_reducible apply HS); first | (with_reducible assumption) | (with_reducible (apply bC HSb k1; assumption)) | (with_reducible (apply bAA HSl; assumption)) | (repeat (first | (with_reducible assumption) | (with_reducible apply Below.refl) | (with_reducible apply bS (hp := HSb)) | (with_reducible apply bSe) | (with_reducible apply bA HSb) | (with_reducible apply bD))))) ((go_at_call 24; refine (HX.out _).mono ?_; rintro e w1 ⟨rfl, k1⟩; (first | ((with_reducible have hq := ((Blk.new wr 38 [.bool false, .bool false, .bool false, .bool false, .bool false, .int .u8 0]).drew).keep k1 (by simp)); have q0 := hq.cell_of (i := 0) rfl; have f0 := hq.frozen (i := 0) (by simp); have q1 := hq.cell_of (i := 1) rfl; have f1 := hq.frozen (i := 1) (by simp); have q2 := hq.cell_of (i := 2) rfl; have f2 := hq.frozen (i := 2) (by simp); have q3 := hq.cell_of (i := 3) rfl; have f3 := hq.frozen (i := 3) (by simp); have q4 := hq.cell_of (i := 4) rfl; have f4 := hq.frozen (i := 4) (by simp); have q5 := hq.cell_of (i := 5) rfl; have f5 := hq.frozen (i := 5) (by simp)) | skip)))
        all_goals (go_wp2_with (fail); go_meet)
        all_goals first
          | exact ⟨_, rfl, Nat.le_refl _, (((((hq.set_ 0 _).set_ 1 _).set_ 2 _).set_ 3 _).set_ 4 _).set_ 5 _, rfl, rfl, (((((((Keeps.alloc [] wr _).drew1.trans k1 (by simp)).setNew _ _ (Nat.le_refl _)).setNew _ _ (Nat.le_refl _)).setNew _ _ (Nat.le_refl _)).setNew _ _ (Nat.le_refl _)).setNew _ _ (Nat.le_refl _)).setNew _ _ (Nat.le_refl _)⟩
          | exact ⟨_, rfl, k1.size, Blk.new w1 38 _, rfl, rfl, ((Keeps.drew [] wr).trans k1 (by simp)).alloc1 _⟩
      case rest =>
        obtain ⟨g, rfl, hg, hbE, rfl, rfl, kx⟩ := hcut
        have hrx := hr1.keep kx (by simp)
        have hbx := hb1.keep kx (by simp)
        have hox := hown.keep kx (by simp)
        have kwx := hkp.trans kx (by simp)
        have hgl := hbE.lt
        have q0 := hbE.cell_of (i := 0) rfl
        have q1 := hbE.cell_of (i := 1) rfl
        have q2 := hbE.cell_of (i := 2) rfl
        have q3 := hbE.cell_of (i := 3) rfl
        have q4 := hbE.cell_of (i := 4) rfl
        have q5 := hbE.cell_of (i := 5) rfl
        have r0 := hrx.cell_of (i := 0) rfl
        have r1 := hrx.cell_of (i := 1) rfl
        have s0 := hrx.frozen (i := 0) (by simp)
        have s1' := hrx.frozen (i := 1) (by simp)
        clear c0 c1 c2 hown hkp hr1 hb1 hi HX
        by_cases hr0 : r = 0
        · subst hr0
          obtain ⟨v', w2, hap, hown2, kap, hbl⟩ := run_append_blk (P := Try.prog) (w := wc) (base := w.heap.size) (ys := [.bool e1, .bool e2, .bool e3, .bool e4, .bool e5, bv e6]) (n := k) Try.underlying22 hiE hE0 hE1 hE2 rfl hox rfl (by simp [Value.oneCell']) (by simp only [maxLen]; omega) (by omega) (by have := kwx.size; omega) 22
          have kw2 : Keeps [] w w2 := kwx.trans kap (by intro a ha hl; exact absurd (hox.lt a ha).1 (by omega))
          have hb2 := hbx.keep kap (fun hm => by have := hox.apartBlk hbx (by decide) _ hm; exact this rfl)
          have hr2 := hrx.keep kap (fun hm => by have := hox.apartBlk hrx (by decide) _ hm; exact this rfl)
          have HB2 := Lib.hid hb2; have HR2 := Lib.hid hr2; have HK2 := Lib.hid kw2; have HO2 := Lib.hid hown2
          have HES := Lib.hid hes
          clear hb2 hr2 kw2 hown2 hox hbx hrx kx kwx hbl kap hiE hE0 hE1 hE2 hes r0 r1 s0 s1'
          go_wp2_with (refine wpList_append hap _ _ rfl rfl rfl rfl rfl ?_)
          refine ⟨⟨k + 1, s, es ++ [⟨e1, e2, e3, e4, e5, e6⟩], by omega, hle, by go_num, rfl, by simp [HES.out], by simpa [evC] using HO2.out, HB2.out, HR2.out, HK2.out, ?_⟩, by simp [intOf]; omega⟩
          rw [HR.out, HE.out]
          simp
        · have hr : ((r : Int) != 0) = true := by simpa using hr0
          have hrn : (r != 0) = true := by simpa using hr0
          have HRN := Lib.hid hrn; clear hrn hr0
          go_wp2_with (fail)
          refine bodyPost_ret (v := .tuple #[u6, .agg #[.int .i64 r, .int .i64 k]]) (by simp [results, Try.results28, go_sem, r0, r1]) rfl ⟨u6, ?_, ?_, ?_⟩
          · rw [HR.out, HE.out, if_pos HRN.out]
          · rw [HR.out, HE.out, if_pos HRN.out]
            simp only [List.append_nil]
            rw [hes]
            exact (hox.keep (Keeps.setCell wc _ _) (fun a ha hm => by simp at hm; have := hox.apartBlk hrx (by decide) a ha; exact this hm)).keep (Keeps.setCell _ _ _) (fun a ha hm => by simp at hm; have := hox.apartBlk hrx (by decide) a ha; exact this hm)
          · exact (kwx.set1 _ _ (by simp)).set1 _ _ (by simp)
    · obtain rfl : k = l.length := by omega
      have hkl : ¬ ((l.length : Int) < (l.length : Int)) := by omega
      have HX := Lib.hid (fun w => HC.out st hst w)
      have hrec : runE ⟨x, y, z⟩ st (l.drop l.length) l.length = if (closeEv st).2 != 0 then ([], (closeEv st).2, l.length) else ([(closeEv st).1], 0, 0) := by
        rw [List.drop_length]; rfl
      have HE := Lib.hid hrec
      clear hrec HS HC HL
      generalize closeEv st = X at *
      obtain ⟨⟨e1, e2, e3, e4, e5, e6⟩, r⟩ := X
      simp only [closeV] at HX
      have hlt3 := hr1.lt
      go_upto_region 12 with (fail)
      go_cut [12, 13] (fun v9 v11 wx => ∃ g : Nat, v9 = .pointer (some ⟨g, 0, none⟩) ∧ wr.heap.size ≤ g ∧ Blk wx g 38 [.bool e1, .bool e2, .bool e3, .bool e4, .bool e5, bv e6] ∧ v11 = .int .i64 r ∧ Keeps [] wr wx)
      case first =>
        go_wp2_with (fail)
        refine (HX.out _).mono ?_
        rintro e w1 ⟨rfl, k1⟩
        go_wp2_with (fail)
        go_meet
        exact ⟨_, rfl, by have := k1.size; simpa using this, Blk.new w1 38 _, rfl, k1.alloc1 _⟩
      case rest =>
        obtain ⟨g, rfl, hg, hbE, rfl, kx⟩ := hcut
        have hrx := hr1.keep kx (by simp)
        have hox := hown.keep kx (by simp)
        have kwx := hkp.trans kx (by simp)
        have hgl := hbE.lt
        have q0 := hbE.cell_of (i := 0) rfl
        have q1 := hbE.cell_of (i := 1) rfl
        have q2 := hbE.cell_of (i := 2) rfl
        have q3 := hbE.cell_of (i := 3) rfl
        have q4 := hbE.cell_of (i := 4) rfl
        have q5 := hbE.cell_of (i := 5) rfl
        have r0 := hrx.cell_of (i := 0) rfl
        have r1 := hrx.cell_of (i := 1) rfl
        have s0 := hrx.frozen (i := 0) (by simp)
        have s1' := hrx.frozen (i := 1) (by simp)
        clear hown hkp hr1 hb1 HX
        by_cases hr0 : r = 0
        · subst hr0
          obtain ⟨v', w2, hap, hown2, kap, hbl⟩ := run_append_blk (P := Try.prog) (w := wc) (base := w.heap.size) (ys := [.bool e1, .bool e2, .bool e3, .bool e4, .bool e5, bv e6]) (n := l.length) Try.underlying22 hiE hE0 hE1 hE2 rfl hox rfl (by simp [Value.oneCell']) (by simp only [maxLen]; omega) (by omega) (by have := kwx.size; omega) 22
          have kw2 : Keeps [] w w2 := kwx.trans kap (by intro a ha hl; exact absurd (hox.lt a ha).1 (by omega))
          have hr2 := hrx.keep kap (fun hm => by have := hox.apartBlk hrx (by decide) _ hm; exact this rfl)
          have t0 := hr2.cell_of (i := 0) rfl
          have t1 := hr2.cell_of (i := 1) rfl
          have u0 := hr2.frozen (i := 0) (by simp)
          have u1 := hr2.frozen (i := 1) (by simp)
          have HR2 := Lib.hid hr2; have HK2 := Lib.hid kw2; have HO2 := Lib.hid hown2
          have HES := Lib.hid hes; have hbl2 := Lib.hid (hown2.apartBlk hr2 (by decide))
          clear hr2 kw2 hown2 hox hrx kx kwx hbl kap hiE hE0 hE1 hE2 hes r0 r1 s0 s1'
          go_wp2_with (refine wpList_append hap _ _ rfl rfl rfl rfl rfl ?_)
          refine bodyPost_ret (v := .tuple #[v', .agg #[.int .i64 0, .int .i64 0]]) (by simp [results, Try.results28, go_sem, t0, t1]) rfl ⟨v', ?_, ?_, ?_⟩
          · rw [HR.out, HE.out]; rfl
          · rw [HR.out, HE.out]
            have h1 := (HO2.out.keep (Keeps.setCell w2 ⟨w.heap.size + 1, 0, none⟩ (.int .i64 0)) (fun a ha hm => by simp at hm; exact hbl2.out a ha hm)).keep (Keeps.setCell _ ⟨w.heap.size + 1, 1, none⟩ (.int .i64 0)) (fun a ha hm => by simp at hm; exact hbl2.out a ha hm)
            simpa [evC, HES.out] using h1
          · exact (HK2.out.set1 _ _ (by simp)).set1 _ _ (by simp)
        · have hr : ((r : Int) != 0) = true := by simpa using hr0
          have hrn : (r != 0) = true := by simpa using hr0
          have HRN := Lib.hid hrn; clear hrn hr0
          go_wp2_with (fail)
          refine bodyPost_ret (v := .tuple #[u6, .agg #[.int .i64 r, .int .i64 l.length]]) (by simp [results, Try.results28, go_sem, r0, r1]) rfl ⟨u6, ?_, ?_, ?_⟩
          · rw [HR.out, HE.out, if_pos HRN.out]
          · rw [HR.out, HE.out, if_pos HRN.out]
            simp only [List.append_nil]
            rw [hes]
            exact (hox.keep (Keeps.setCell wc _ _) (fun a ha hm => by simp at hm; have := hox.apartBlk hrx (by decide) a ha; exact this hm)).keep (Keeps.setCell _ _ _) (fun a ha hm => by simp at hm; have := hox.apartBlk hrx (by decide) a ha; exact this hm)
          · exact (kwx.set1 _ _ (by simp)).set1 _ _ (by simp)
end Go.Proofs.Ytogmcfljojobfaa.Scan
