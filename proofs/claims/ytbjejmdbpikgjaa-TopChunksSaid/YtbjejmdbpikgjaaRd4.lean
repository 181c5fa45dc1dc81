/- The contracts of package read: the walk through bytes. -/
import Derived.Test.YtbjejmdbpikgjaaRd3
namespace Go.Proofs.Ytbjejmdbpikgjaa.Rd
set_option linter.unusedVariables false
set_option linter.unusedSimpArgs false
set_option maxRecDepth 100000
open Go.RowKit Q Mach Dia Scan Ref4 Fld
attribute [local go_sem ↓] Go.wp_at_zero Go.wp_at_succ
theorem infoStrs : (Try.prog.info? 65).map (fun i => (i.zero, i.size, i.bytes)) = some (some (.slice none 0 0), 1, 24) := by kernel_rfl
theorem step_le (d : Dia) (st : Nat) (b : UInt8) (h : st ≤ 6) : (Mach.step d st b).2.1 ≤ 6 := by
  unfold Mach.step atStart inRecord
  repeat' split
  all_goals simp
theorem Upto.mono' {n k : Nat} {l : Lim} {m : Mk} (h : Upto n l m) (hk : n ≤ k) : Upto k l m := ⟨h.l, Nat.le_trans h.f hk, by have := h.r; omega, Nat.le_trans h.b hk, Nat.le_trans h.k hk⟩
theorem stp_ok {n : Nat} {l : Lim} {d : Dia} {sq st : Nat} {m : Mk} (b : UInt8) (hU : Upto n l m) (hq : sq ≤ 7) (hs : st ≤ 6) :
    Upto (n + 1) l (Rdp.stp d sq st m b).mm ∧ (Rdp.stp d sq st m b).sq ≤ 7 ∧ (Rdp.stp d sq st m b).st ≤ 6 := by
  unfold Rdp.stp
  cases hu : Utf.ustep sq b.toNat with
  | none => exact ⟨Upto.mono' hU (by omega), hq, hs⟩
  | some q =>
    have hq2 := Utf.ustep_lt hu
    have hs2 := step_le d st b hs
    dsimp only
    split
    · exact ⟨Upto.mono' hU (by omega), hq2, hs⟩
    · exact ⟨hU.take _, hq2, hs2⟩
theorem stp_none {d : Dia} {sq st : Nat} {m : Mk} {b : UInt8} (h : (Rdp.stp d sq st m b).kind ≠ 0) : (Rdp.stp d sq st m b).o = none := by
  unfold Rdp.stp at h ⊢
  cases hu : Utf.ustep sq b.toNat with
  | none => rfl
  | some q =>
    rw [hu] at h
    dsimp only at h ⊢
    split at h
    · rename_i h1; rw [if_pos h1]
    · rename_i h1
      rw [if_neg h1]
      dsimp only at h ⊢
      rw [take_eq] at h ⊢
      repeat' split at h
      all_goals simp_all
theorem wk_ok {l : Lim} {d : Dia} : ∀ (b : Bs) (n sq st : Nat) (m : Mk) (i : Nat), Upto n l m → sq ≤ 7 → st ≤ 6 → Upto (n + b.length) l (Rdp.wk d sq st m b i).mm ∧ (Rdp.wk d sq st m b i).sq ≤ 7 ∧ (Rdp.wk d sq st m b i).st ≤ 6
  | [], n, sq, st, m, i, h1, h2, h3 => ⟨h1, h2, h3⟩
  | c :: b, n, sq, st, m, i, h1, h2, h3 => by
    have h := stp_ok (d := d) c h1 h2 h3
    unfold Rdp.wk
    dsimp only
    split
    · exact ⟨Upto.mono' h.1 (by simp), h.2.1, h.2.2⟩
    · have := wk_ok (d := d) b (n + 1) _ _ _ (i + 1) h.1 h.2.1 h.2.2
      simp only [Rdp.Wk.pre, List.length_cons]
      rw [show n + (b.length + 1) = n + 1 + b.length by omega]
      exact this
/-- A record is put behind those that are ready. -/
theorem RAt.push {w w2 : World} {base g : Nat} {d : Dia} {s : Rs} {vf vr vq v v' : Value} {vs : List Value} {r : Row} (h : RAt w base g d s vf vr vq vs) (hu : Own w base 9 1 v r.length (r.map sv)) (ha : ∀ k ∈ blkOf v, k ∉ blkOf vr)
    (hv : Own w2 base 65 1 v' (s.recs.length + 1) (vs ++ [v])) (k : Keeps (blkOf vq) w w2) : RAt (w2.setCell ⟨g, 20, none⟩ v') base g d { s with recs := s.recs ++ [r] } vf vr v' (vs ++ [v]) := by
  have hq := h.tab.2.1
  have hgq : g ∉ blkOf vq := fun hm => h.tabG g (by simp only [tblks, List.mem_append]; exact .inl hm) rfl
  have hb := h.blk.keep k hgq
  have ht := h.tab.push (by decide) hu hv k
  have hf := h.mka.fld.keep k (fun x hx hm => h.mka.fld.apart hq (by decide) x hx hm)
  have hr := h.mka.rcd.keep k (fun x hx hm => h.mka.rcd.apart hq (by decide) x hx hm)
  have k2 := Keeps.setCell w2 ⟨g, 20, none⟩ v'
  have hM : MkAt w2 base g 84 (rP d s) (rT s vq) s.mm vf vr := ⟨hb, h.mka.low, hf, hr⟩
  refine ⟨⟨hb.set_ 20 v', h.mka.low, ?_, ?_⟩, ?_, ?_⟩
  · exact hf.keep k2 (fun a ha hm => by simp at hm; exact hf.apartBlk hb (by decide) a ha hm)
  · exact hr.keep k2 (fun a ha hm => by simp at hm; exact hr.apartBlk hb (by decide) a ha hm)
  · refine ht.keep k2 (fun a ha hm => ?_)
    simp only [List.mem_singleton] at hm
    obtain ⟨t1, t2, t3⟩ := ht
    simp only [tblks, List.mem_append, List.mem_flatMap] at ha
    rcases ha with hx | ⟨u, hu, hx⟩
    · exact t2.apartBlk hb (by decide) a hx hm
    · obtain ⟨i, hi, rfl⟩ := List.getElem_of_mem (List.mem_append.mpr hu)
      exact (t3 i _ _ (List.getElem?_eq_getElem hi) (List.getElem?_eq_getElem (by omega))).apartBlk hb (by decide) a hx hm
  · intro x hx
    simp only [List.flatMap_append, List.mem_append, List.flatMap_cons, List.flatMap_nil, List.append_nil] at hx
    rcases hx with hx | hx
    · exact h.ap x hx
    · exact ha x hx
def walkS (d : Dia) (s : Rs) (b : Bs) (i : Nat) : Rs :=
  { s with sq := (Rdp.wk d s.sq s.st s.mm b i).sq, st := (Rdp.wk d s.sq s.st s.mm b i).st, mm := (Rdp.wk d s.sq s.st s.mm b i).mm, recs := s.recs ++ (Rdp.wk d s.sq s.st s.mm b i).recs, kind := (Rdp.wk d s.sq s.st s.mm b i).kind, pl := (Rdp.wk d s.sq s.st s.mm b i).pl }
/-- What is known in the midst of a walk. -/
structure Mid (d : Dia) (l : Lim) (n : Nat) (b : Bs) (i : Nat) (s s' : Rs) (k : Nat) (rs : Tb) : Prop where
  e : s' = { s with sq := s'.sq, st := s'.st, mm := s'.mm, recs := s.recs ++ rs }
  u : Upto (n + k) l s'.mm
  q : s'.sq ≤ 7
  t : s'.st ≤ 6
  w : Rdp.wk d s.sq s.st s.mm b i = (Rdp.wk d s'.sq s'.st s'.mm (b.drop k) (i + k)).pre rs
  r : rs.length ≤ k
theorem Mid.step {d : Dia} {l : Lim} {n : Nat} {b : Bs} {i : Nat} {s s' : Rs} {k : Nat} {rs : Tb} (h : Mid d l n b i s s' k rs) (hk : k < b.length) (x : Rdp.Sp) (hx : Rdp.stp d s'.sq s'.st s'.mm b[k] = x) (h0 : x.kind = 0) :
    Mid d l n b i s { stepS s' x with recs := s'.recs ++ x.o.toList } (k + 1) (rs ++ x.o.toList) := by
  have h1 := stp_ok (d := d) b[k] h.u h.q h.t
  rw [hx] at h1
  refine ⟨?_, h1.1, h1.2.1, h1.2.2, ?_, ?_⟩
  · rw [h.e]; simp [stepS]
  · rw [h.w, List.drop_eq_getElem_cons hk]
    have e2 : Rdp.wk d s'.sq s'.st s'.mm (b[k] :: b.drop (k + 1)) (i + k) = (Rdp.wk d x.sq x.st x.mm (b.drop (k + 1)) (i + k + 1)).pre x.o.toList := by
      rw [Rdp.wk]
      simp only [hx]
      rw [if_neg (by simpa using h0)]
    rw [e2, Rdp.Wk.pre_pre]
    rfl
  · have := h.r
    have : x.o.toList.length ≤ 1 := by cases x.o <;> simp
    simp; omega
theorem Mid.bad {d : Dia} {l : Lim} {n : Nat} {b : Bs} {i : Nat} {s s' : Rs} {k : Nat} {rs : Tb} (h : Mid d l n b i s s' k rs) (hk : k < b.length) (x : Rdp.Sp) (hx : Rdp.stp d s'.sq s'.st s'.mm b[k] = x) (h0 : x.kind ≠ 0) :
    walkS d s b i = { stepS s' x with kind := x.kind, pl := i + k } := by
  have e2 : Rdp.wk d s.sq s.st s.mm b i = ⟨x.sq, x.st, x.mm, rs, x.kind, i + k⟩ := by
    rw [h.w, List.drop_eq_getElem_cons hk, Rdp.wk]
    simp only [hx]
    rw [if_pos h0]
    simp [Rdp.Wk.pre]
  unfold walkS
  rw [e2, h.e]
  simp [stepS]
theorem Mid.all {d : Dia} {l : Lim} {n : Nat} {b : Bs} {i : Nat} {s s' : Rs} {rs : Tb} (h : Mid d l n b i s s' b.length rs) (hk : s.kind = 0 ∧ s.pl = 0) : walkS d s b i = s' := by
  have e2 : Rdp.wk d s.sq s.st s.mm b i = ⟨s'.sq, s'.st, s'.mm, rs, 0, 0⟩ := by
    rw [h.w, List.drop_length, Rdp.wk]
    simp [Rdp.Wk.pre]
  unfold walkS
  rw [e2, h.e]
  simp [hk.1, hk.2]
set_option maxHeartbeats 8000000 in
theorem walk_c (w : World) (base g n B : Nat) (d : Dia) (l : Lim) (s : Rs) (O : List Nat) (v : Value) (b : Bs) (hbw : base ≤ w.heap.size) (h : RA w base g d s O) (hU : Upto n l s.mm) (hn : n + b.length ≤ 10000) (ha : l.field ≤ 2147483648) (hb : l.fields ≤ 2147483648) (hc : l.records ≤ 2147483648) (hsq : s.sq ≤ 7) (hst : s.st ≤ 6) (hk : s.kind = 0 ∧ s.pl = 0)
    (hv : Rd w B 1 v b.length (b.map bv)) (hd : b = [] ∨ ∀ x ∈ blkOf v, x ∉ g :: O) (hf : b.length ≤ s.fed) (hf2 : s.fed ≤ 10000) (hrl : s.recs.length ≤ 10000) :
    Calls Try.prog 35 #[.pointer (some ⟨g, 0, none⟩), v] w fun e w' => e = .returned (.tuple #[]) ∧ RP w base g d (walkS d s b (s.fed - b.length)) O w' := by
  obtain ⟨iS, hiS, hS0, hS1, hS2⟩ := info_parts infoStrs
  obtain ⟨A, cv, rfl, hv1, hv2⟩ := hv.form
  unfold maxLen at hv2
  have HV := Lib.hid hv
  have HD := Lib.hid hd
  have h0 := h
  obtain ⟨vf, vr, vq, vs, hO, h1⟩ := h
  have c19 := h1.c (i := 19) rfl
  have hgl := h1.lt
  have hfi : ((s.fed : Int) - (b.length : Int)) = ((s.fed - b.length : Nat) : Int) := by omega
  have hfw : wrap64 ((s.fed : Int) - (b.length : Int)) = ((s.fed - b.length : Nat) : Int) := by rw [hfi]; exact IntWalk.wrap64_in _ (by omega)
  obtain ⟨i0, hi0⟩ : ∃ i0, s.fed - b.length = i0 := ⟨_, rfl⟩
  rw [hi0] at hfi hfw ⊢
  have hi1 : i0 ≤ 10000 := by omega
  have H0 := Lib.hid h0
  have HN := Lib.hid (show Mid d l n b i0 s s 0 [] from ⟨by simp, hU, hsq, hst, by simp [Rdp.Wk.pre_nil], by simp⟩)
  have HK := Lib.hid hk
  clear h1 h0 hU hsq hst hv hd hk
  go_enter Try.func35, Try.ntmps35
  go_wp2_with (fail)
  go_step3
  go_wp2_with (fail)
  go_step3
  go_wp2_with (fail)
  clear c19 hgl hfw hfi
  go_loopw [19] (fun i wr => ∃ (k : Nat) (s' : Rs) (rs : Tb), k ≤ b.length ∧ i = .int .i64 k ∧ RP w base g d s' O wr ∧ Mid d l n b i0 s s' k rs) (fun i _ => b.length - (intOf i).toNat)
  case atStart => exact ⟨0, s, [], Nat.zero_le _, rfl, RP.refl H0.out, HN.out⟩
  case round =>
    obtain ⟨k, s', rs, hkb, rfl, hR, hM⟩ := hrel
    clear HN
    by_cases hlt : k < b.length
    · obtain ⟨O2, h2, k2, n2⟩ := hR
      have hvr : Rd wr B 1 (.slice A b.length cv) b.length (b.map bv) := HV.out.keepE k2 (by
        rcases HD.out with h | h
        · exact .inl (by rw [h]; rfl)
        · exact .inr h)
      obtain ⟨bZ, oZ, uZ, rfl, _, huZ, cZ⟩ := hvr.at_ hlt
      have e1 : uZ = bv b[k] := by
        rw [List.getElem?_map, List.getElem?_eq_getElem hlt] at huZ
        exact (Option.some.inj huZ).symm
      subst e1
      have HX := Lib.hid (step_c wr base g (n + k) d l s' O2 b[k] h2 hM.u (by omega) ha hb hc hM.q hM.t)
      have hk0 : (0 : Int) ≤ (k : Int) := by omega
      have hkl : (k : Int) < (b.length : Int) := by omega
      have HM := Lib.hid (fun x hx h0 => hM.step hlt x hx h0)
      have HMB := Lib.hid (fun x hx h0 => hM.bad hlt x hx h0)
      have hrr := hM.r
      have hre : s'.recs = s.recs ++ rs := by rw [hM.e]
      have HON := Lib.hid (fun (h : (Rdp.stp d s'.sq s'.st s'.mm b[k]).kind ≠ 0) => stp_none h)
      obtain ⟨x, hx⟩ : ∃ x, Rdp.stp d s'.sq s'.st s'.mm b[k] = x := ⟨_, rfl⟩
      rw [hx] at HX HON
      have HXX := Lib.hid hx
      have K2 := Lib.hid k2
      have N2 := Lib.hid n2
      clear hx huZ hvr hM h2 k2 n2 hi0
      obtain ⟨q, t, m, o, r⟩ := x
      simp only at HX HON
      generalize b[k] = bk at *
      go_wp2_with (fail)
      with_reducible refine HX.out.mono ?_
      rintro e w3 ⟨v, O3, rfl, hv3, hn3, ha3, h3, k3, n3⟩
      have K23 := Lib.hid (K2.out.trans k3 (fun z hz hl => by
        simp only [List.mem_cons] at hz ⊢
        rcases hz with hz | hz
        · exact .inl hz
        · exact .inr ((N2.out z hz).resolve_right (by omega))))
      have N23 := Lib.hid (fun z (hz : z ∈ O3) => (n3 z hz).elim (fun h => N2.out z h) (fun h => .inr (Nat.le_trans K2.out.size h)))
      have hb3 : base ≤ w3.heap.size := Nat.le_trans hbw (Nat.le_trans K2.out.size k3.size)
      clear HX k3 n3
      obtain ⟨vf3, vr3, vq3, vs3, rfl, h4⟩ := h3
      by_cases hr0 : r = 0
      rotate_left
      · have hr : ((r : Int) != 0) = true := by simpa using hr0
        obtain rfl := HON.out hr0
        have c22 := h4.c (i := 22) rfl
        have c23 := h4.c (i := 23) rfl
        have f22 := h4.f (i := 22) (by omega)
        have f23 := h4.f (i := 23) (by omega)
        have hg3 := h4.lt
        have H4 := Lib.hid h4
        have HR0 := Lib.hid hr0
        have hA : RAt ((w3.setCell ⟨g, 22, none⟩ (.int .i64 r)).setCell ⟨g, 23, none⟩ (.int .i64 ((i0 : Int) + (k : Int)))) base g d { stepS s' ⟨q, t, m, none, r⟩ with kind := r, pl := i0 + k } vf3 vr3 vq3 vs3 :=
          (h4.set (s' := { stepS s' ⟨q, t, m, none, r⟩ with kind := r }) 22 _ rfl rfl rfl).set 23 _ (by simp [rC, rP, rT, mkC, Bom.St.cells]) rfl rfl
        have HAF := Lib.hid hA
        clear h4 hr0 hv3 hn3 ha3 cZ hA
        go_wp2_with (fail)
        rw [Exit.noGoto_normal]
        go_end0
        refine ⟨rfl, ?_⟩
        rw [HMB.out _ HXX.out HR0.out]
        exact ⟨_, ⟨vf3, vr3, vq3, vs3, rfl, HAF.out⟩, (K23.out.set1 _ _ (by simp)).set1 _ _ (by simp), N23.out⟩
      subst hr0
      have hr : (((0 : Nat) : Int) != 0) = false := by decide
      cases o with
      | none =>
        have hr9 : RP w base g d { stepS s' ⟨q, t, m, none, 0⟩ with recs := s'.recs ++ (none : Option Row).toList } O w3 := by
          rw [Option.toList_none, List.append_nil]
          exact ⟨_, ⟨vf3, vr3, vq3, vs3, rfl, h4⟩, K23.out, N23.out⟩
        have HR9 := Lib.hid hr9
        have HM9 := Lib.hid (HM.out ⟨q, t, m, none, 0⟩ HXX.out rfl)
        clear h4 hr9 hv3 ha3
        have hv9 := hn3 rfl
        subst hv9
        clear hn3
        go_wp2_with (fail)
        go_roundw
        case rel => exact ⟨k + 1, _, _, by omega, by go_num, HR9.out, HM9.out⟩
        case measure => simp [intOf]; omega
      | some row =>
        simp only [Option.getD_some] at hv3
        have htl := h4.tab.2.1
        have hrl2 : s'.recs.length ≤ 20000 := by rw [hre, List.length_append]; omega
        obtain ⟨vq', w4, hap, hq4, k4, n4⟩ := run_append1 (P := Try.prog) (t := 42) Try.underlying42 hiS hS0 hS1 hS2 rfl htl (y := v) (by obtain ⟨a, b, rfl, _, _⟩ := hv3.form; rfl) (by simp only [maxLen]; simp [stepS]; omega) (by simp [stepS]; omega) hb3 42
        have c20 := h4.c (i := 20) rfl
        have hA := h4.push (r := row) hv3 (fun z hz hm => ha3 z hz (by simp only [List.mem_append]; exact .inr (.inl hm))) hq4 k4
        obtain ⟨A9, c9, rfl, _, _⟩ := hv3.form
        obtain ⟨A8, c8, rfl, _, _⟩ := hq4.form
        have hgq : g ∉ blkOf vq3 := fun hm => h4.tabG g (by simp only [tblks, List.mem_append]; exact .inl hm) rfl
        have hb4 := h4.blk.keep k4 hgq
        have e20 := hb4.cell_of (i := 20) rfl
        have f20 := hb4.frozen (i := 20) (by simp [rC, rP, rT, mkC, Bom.St.cells])
        have hg4 := hb4.lt
        have hO4 : ∀ z ∈ blkOf vf3 ++ (blkOf vr3 ++ blkOf (.slice A8 ((stepS s' ⟨q, t, m, some row, 0⟩).recs.length + 1) c8)), z ∈ O ∨ w.heap.size ≤ z := by
          intro z hz
          simp only [List.mem_append] at hz
          rcases hz with hz | hz | hz
          · exact N23.out z (by simp only [List.mem_append]; exact .inl hz)
          · exact N23.out z (by simp only [List.mem_append]; exact .inr (.inl hz))
          · rcases n4 z hz with h | h
            · exact N23.out z (by simp only [List.mem_append]; exact .inr (.inr h))
            · exact .inr (Nat.le_trans K23.out.size h)
        have hk4 : Keeps (g :: O) w (w4.setCell ⟨g, 20, none⟩ (.slice A8 ((stepS s' ⟨q, t, m, some row, 0⟩).recs.length + 1) c8)) :=
          (K23.out.trans k4 (fun z hz hl => by
            rcases N23.out z (by simp only [List.mem_append]; exact .inr (.inr hz)) with h | h
            · exact List.mem_cons_of_mem _ h
            · omega)).set1 _ _ (by simp)
        have HAF := Lib.hid hA
        have HO4 := Lib.hid hO4
        have HK4 := Lib.hid hk4
        have HM9 := Lib.hid (HM.out ⟨q, t, m, some row, 0⟩ HXX.out rfl)
        clear h4 hA hb4 hO4 hk4 hgq n4 k4 hq4 htl ha3 hn3 hv3 cZ hre hrr hrl2
        go_wp2_with (with_reducible refine wpList_append hap _ _ rfl rfl rfl rfl rfl ?_)
        go_roundw
        case rel => exact ⟨k + 1, _, _, by omega, by go_num, ⟨_, ⟨vf3, vr3, _, _, rfl, HAF.out⟩, HK4.out, HO4.out⟩, HM9.out⟩
        case measure => simp [intOf]; omega
    · obtain rfl : k = b.length := by omega
      have e1 := Lib.hid (hM.all HK.out)
      have HR := Lib.hid hR
      have hkl : ¬ ((b.length : Int) < (b.length : Int)) := by omega
      clear hM hR
      go_wp2_with (fail)
      try rw [Exit.noGoto_normal]
      go_end0
      rw [e1.out]
      exact ⟨rfl, HR.out⟩
end Go.Proofs.Ytbjejmdbpikgjaa.Rd
