/- The contracts of package read: Feed. -/
import Derived.Test.YtbjejmdbpikgjaaRd4
namespace Go.Proofs.Ytbjejmdbpikgjaa.Rd
set_option linter.unusedVariables false
set_option linter.unusedSimpArgs false
set_option maxRecDepth 100000
open Go.RowKit Q Mach Dia Scan Ref4 Fld
attribute [local go_sem ↓] Go.wp_at_zero Go.wp_at_succ
theorem go_len2 : ∀ (l : List UInt8) (h : Nat), (Bom.go h l).2.2.2.length + (Bom.go h l).1 ≤ h + l.length
  | [], h => by simp [Bom.go]
  | b :: l, h => by
    unfold Bom.go
    split
    · split
      · simp; omega
      · have := go_len2 l (h + 1)
        simp only [List.length_cons]; omega
    · simp only [List.length_append, List.length_take, List.length_cons]
      omega
theorem feed_len (s : Bom.St) (l : Bs) : (Bom.feedOut s l).length + (Bom.feedSt s l).held ≤ l.length + s.held := by
  unfold Bom.feedOut Bom.feedSt
  split
  · simp
  · split
    · simp
    · have := go_len2 l s.held
      simp only; omega
/-- What holds of a reader between two calls. -/
structure Ok (l : Lim) (n : Nat) (s : Rs) : Prop where
  b : s.bs.ok
  c : s.cl = false → s.bs.closed = false
  u : Upto n l s.mm
  f : n + s.bs.held ≤ s.fed
  q : s.sq ≤ 7
  t : s.st ≤ 6
  k : s.kind = 0 → s.pl = 0
  r : s.recs.length ≤ n
def feedIn (s : Rs) (b : Bs) : Rs := { s with fed := s.fed + b.length, bs := Bom.feedSt s.bs b }
def feedS (d : Dia) (s : Rs) (b : Bs) : Rs :=
  if s.cl = true ∨ s.kind ≠ 0 then s else walkS d (feedIn s b) (Bom.feedOut s.bs b) (s.fed + b.length - (Bom.feedOut s.bs b).length)
theorem wk_recs (d : Dia) : ∀ (b : Bs) (sq st : Nat) (m : Mk) (i : Nat), (Rdp.wk d sq st m b i).recs.length ≤ b.length
  | [], sq, st, m, i => by simp [Rdp.wk]
  | c :: b, sq, st, m, i => by
    unfold Rdp.wk
    dsimp only
    split
    · simp
    · have := wk_recs d b (Rdp.stp d sq st m c).sq (Rdp.stp d sq st m c).st (Rdp.stp d sq st m c).mm (i + 1)
      have h2 : (Rdp.stp d sq st m c).o.toList.length ≤ 1 := by cases (Rdp.stp d sq st m c).o <;> simp
      simp only [Rdp.Wk.pre, List.length_append, List.length_cons]
      omega
theorem wk_pl (d : Dia) : ∀ (b : Bs) (sq st : Nat) (m : Mk) (i : Nat), (Rdp.wk d sq st m b i).kind = 0 → (Rdp.wk d sq st m b i).pl = 0
  | [], sq, st, m, i, _ => rfl
  | c :: b, sq, st, m, i, h => by
    unfold Rdp.wk at h ⊢
    dsimp only at h ⊢
    split at h
    · rename_i h1; exact absurd h h1
    · rename_i h1
      rw [if_neg h1]
      exact wk_pl d b _ _ _ _ h
theorem walk_ok {l : Lim} {n : Nat} {d : Dia} {s : Rs} (h : Ok l n s) (b : Bs) (i : Nat) (hn : n + b.length + s.bs.held ≤ s.fed) : Ok l (n + b.length) (walkS d s b i) := by
  have h1 := wk_ok (d := d) b n s.sq s.st s.mm i h.u h.q h.t
  have h2 := wk_recs d b s.sq s.st s.mm i
  refine ⟨h.b, h.c, h1.1, hn, h1.2.1, h1.2.2, fun hk => wk_pl d b _ _ _ _ hk, ?_⟩
  simp only [walkS, List.length_append]
  have := h.r
  omega
theorem feedIn_ok {l : Lim} {n : Nat} {s : Rs} (h : Ok l n s) (hc : s.cl = false) (b : Bs) : Ok l n (feedIn s b) ∧ n + (Bom.feedOut s.bs b).length + (feedIn s b).bs.held ≤ (feedIn s b).fed := by
  have h1 := feed_len s.bs b
  have h2 := h.f
  refine ⟨⟨Bom.feedSt_ok h.b b, fun _ => Bom.feedSt_closed (h.c hc) b, h.u, ?_, h.q, h.t, h.k, h.r⟩, ?_⟩
  · simp only [feedIn]; omega
  · simp only [feedIn]; omega
theorem feed_ok {l : Lim} {n : Nat} {d : Dia} {s : Rs} (h : Ok l n s) (b : Bs) : ∃ n', Ok l n' (feedS d s b) := by
  unfold feedS
  split
  · exact ⟨n, h⟩
  · rename_i hc
    have hc' : s.cl = false := by
      cases hh : s.cl
      · rfl
      · exact absurd (.inl hh) hc
    obtain ⟨h1, h2⟩ := feedIn_ok h hc' b
    exact ⟨_, walk_ok h1 _ _ h2⟩
/-- The stripper within. -/
theorem RAt.bomAt {w : World} {base g : Nat} {d : Dia} {s : Rs} {vf vr vq : Value} {vs : List Value} (h : RAt w base g d s vf vr vq vs) : Bom.StAt w g 84 [bv d.delim, bv d.quote, .int .i64 d.fin] (mkC s.mm vf vr ++ rT s vq) s.bs :=
  ⟨by have := h.blk; simpa [rC, rP, List.append_assoc] using this⟩
theorem RAt.bom {w w' : World} {base g : Nat} {d : Dia} {s : Rs} {vf vr vq : Value} {vs : List Value} (h : RAt w base g d s vf vr vq vs) {b' : Bom.St} (hs : Bom.StAt w' g 84 [bv d.delim, bv d.quote, .int .i64 d.fin] (mkC s.mm vf vr ++ rT s vq) b') (k : Keeps [g] w w') :
    RAt w' base g d { s with bs := b' } vf vr vq vs := by
  refine ⟨⟨?_, h.mka.low, ?_, ?_⟩, ?_, h.ap⟩
  · have := hs.blk; simpa [rC, rP, rT, List.append_assoc] using this
  · exact h.mka.fld.keep k (fun a ha hm => by simp at hm; exact h.mka.fld.apartBlk h.mka.blk (by decide) a ha hm)
  · exact h.mka.rcd.keep k (fun a ha hm => by simp at hm; exact h.mka.rcd.apartBlk h.mka.blk (by decide) a ha hm)
  · exact h.tab.keep k (fun a ha hm => by simp at hm; exact h.tabG a ha hm)
theorem RAt.far {w : World} {base g r : Nat} {e : TypeId} {cs : List Value} {d : Dia} {s : Rs} {vf vr vq : Value} {vs : List Value} (h : RAt w base g d s vf vr vq vs) (hb : Blk w r e cs) (he : 84 ≠ e ∧ 5 ≠ e ∧ 9 ≠ e ∧ 65 ≠ e) (i : Nat) (u : Value) : RAt (w.setCell ⟨r, i, none⟩ u) base g d s vf vr vq vs := by
  refine h.keepF (Keeps.setCell w ⟨r, i, none⟩ u) ?_ ?_ ?_ ?_
  · intro hm
    simp only [List.mem_singleton] at hm
    exact h.mka.blk.ne_ hb he.1 hm
  · intro x hx hm
    simp only [List.mem_singleton] at hm
    exact h.mka.fld.apartBlk hb he.2.1 x hx hm
  · intro x hx hm
    simp only [List.mem_singleton] at hm
    exact h.mka.rcd.apartBlk hb he.2.2.1 x hx hm
  · intro x hx hm
    simp only [List.mem_singleton] at hm
    obtain ⟨t1, t2, t3⟩ := h.tab
    simp only [tblks, List.mem_append, List.mem_flatMap] at hx
    rcases hx with hx | ⟨y, hy, hx⟩
    · exact t2.apartBlk hb he.2.2.2 x hx hm
    · obtain ⟨j, hj, rfl⟩ := List.getElem_of_mem hy
      exact (t3 j _ _ (List.getElem?_eq_getElem hj) (List.getElem?_eq_getElem (by omega))).apartBlk hb he.2.2.1 x hx hm
set_option maxHeartbeats 8000000 in
theorem feed_c (w : World) (base g n B : Nat) (d : Dia) (l : Lim) (s : Rs) (O : List Nat) (v : Value) (b : Bs) (hbw : base ≤ w.heap.size) (h : RA w base g d s O) (hOk : Ok l n s) (ha : l.field ≤ 2147483648) (hb : l.fields ≤ 2147483648) (hc : l.records ≤ 2147483648)
    (hv : Rd w B 1 v b.length (b.map bv)) (hd : b = [] ∨ ∀ x ∈ blkOf v, x ∉ g :: O) (hf : s.fed + b.length ≤ 5000) :
    Calls Try.prog 11 #[.pointer (some ⟨g, 0, none⟩), v] w fun e w' => e = .returned (fltV (feedS d s b)) ∧ RP w base g d (feedS d s b) O w' := by
  obtain ⟨l1, l2, l3⟩ := h.lt
  obtain ⟨A, cv, rfl, hv1, hv2⟩ := hv.form
  unfold maxLen at hv2
  have kp := Keeps.alloc [] w (.cells #[.int .i64 0, .int .i64 0] 35)
  have hre := Blk.new w 35 [.int .i64 0, .int .i64 0]
  have h0 := h.keep kp
  have hrg : w.heap.size ∉ g :: O := by
    intro hm
    simp only [List.mem_cons] at hm
    rcases hm with hm | hm
    · omega
    · have := (l3 _ hm).2; omega
  have hne : g ≠ w.heap.size := by omega
  have hv0 := hv.keepE kp (.inr (by simp))
  obtain ⟨vf, vr, vq, vs, hO, h1⟩ := h0
  have c24 := h1.c (i := 24) rfl
  have c22 := h1.c (i := 22) rfl
  have c23 := h1.c (i := 23) rfl
  have hl0 := h1.lt
  have r0 := hre.cell_of (i := 0) rfl
  have r1 := hre.cell_of (i := 1) rfl
  have s0 := hre.frozen (i := 0) (by simp)
  have s1 := hre.frozen (i := 1) (by simp)
  have H0 := Lib.hid h
  have KP := Lib.hid kp
  clear h hv
  cases hcl : s.cl
  rotate_left
  · rw [hcl] at c24
    have hF : feedS d s b = s := by unfold feedS; rw [if_pos (.inl hcl)]
    have HF := Lib.hid hF
    clear hF hcl h1 hre
    go_enter Try.func11, Try.ntmps11
    go_wp2_with (fail)
    refine bodyPost_ret (v := fltV s) (by simp [results, Try.results11, go_sem, fltV]) rfl ⟨by rw [HF.out], ?_⟩
    rw [HF.out]
    exact RP.of H0.out (Keeps.alloc [] w _)
  rw [hcl] at c24
  by_cases hk : s.kind = 0
  rotate_left
  · have hk' : ((s.kind : Int) != 0) = true := by simpa using hk
    have hF : feedS d s b = s := by unfold feedS; rw [if_pos (.inr hk)]
    have HF := Lib.hid hF
    clear hF hcl h1 hre hk
    go_enter Try.func11, Try.ntmps11
    go_wp2_with (fail)
    refine bodyPost_ret (v := fltV s) (by simp [results, Try.results11, go_sem, fltV]) rfl ⟨by rw [HF.out], ?_⟩
    rw [HF.out]
    exact RP.of H0.out (Keeps.alloc [] w _)
  have hk' : ((s.kind : Int) != 0) = false := by simpa using hk
  have hF : feedS d s b = walkS d (feedIn s b) (Bom.feedOut s.bs b) (s.fed + b.length - (Bom.feedOut s.bs b).length) := by
    unfold feedS; rw [if_neg (by rw [hcl]; simp [hk])]
  have HF := Lib.hid hF
  go_enter Try.func11, Try.ntmps11
  go_upto_region 1 with (fail)
  have hz0 : w.heap.size < (w.alloc (.cells #[.int .i64 0, .int .i64 0] 35)).heap.size := by simp
  generalize w.alloc (.cells #[.int .i64 0, .int .i64 0] 35) = w0 at *
  have c19 := h1.c (i := 19) rfl
  have f19 := h1.f (i := 19) (by omega)
  have h2 : RAt (w0.setCell ⟨g, 19, none⟩ (.int .i64 ((s.fed : Int) + (b.length : Int)))) base g d { s with fed := s.fed + b.length } vf vr vq vs :=
    h1.set 19 _ (by simp [rC, rP, rT, mkC, Bom.St.cells]) rfl rfl
  have hv2 := hv0.keepE (Keeps.setCell w0 ⟨g, 19, none⟩ (.int .i64 ((s.fed : Int) + (b.length : Int)))) (by
    rcases hd with h | h
    · exact .inl (by rw [h]; rfl)
    · exact .inr fun x hx hm => by simp only [List.mem_singleton] at hm; exact h x hx (by rw [hm]; simp))
  have hr2 := hre.far (p := ⟨g, 19, none⟩) (by show w.heap.size ≠ g; omega) (.int .i64 ((s.fed : Int) + (b.length : Int)))
  have k2 : Keeps (g :: O) w (w0.setCell ⟨g, 19, none⟩ (.int .i64 ((s.fed : Int) + (b.length : Int)))) := (kp.sub (by simp)).set1 _ _ (by simp)
  obtain ⟨h3, h3b⟩ := feedIn_ok hOk hcl b
  have hdg : b = [] ∨ ∀ x ∈ blkOf (.slice A b.length cv), x ≠ g := hd.imp id (fun h x hx e => h x hx (by rw [e]; simp))
  have HFD := Lib.hid (Bom.feed_open g 84 _ _ s.bs hOk.b B (.slice A b.length cv) b _ h2.bomAt (hOk.c hcl) hv2 hdg (by omega))
  have H2 := Lib.hid h2
  have HR2 := Lib.hid hr2
  have K2 := Lib.hid k2
  have HOK := Lib.hid hOk
  have H3 := Lib.hid h3
  have H3B := Lib.hid h3b
  have HKK := Lib.hid hk
  have hsz : w.heap.size < (w0.setCell ⟨g, 19, none⟩ (.int .i64 ((s.fed : Int) + (b.length : Int)))).heap.size := by simp; omega
  have hgz : g < (w0.setCell ⟨g, 19, none⟩ (.int .i64 ((s.fed : Int) + (b.length : Int)))).heap.size := by simp; omega
  have HSZ := Lib.hid (And.intro hsz hgz)
  clear hF h1 h2 hv2 hv0 hr2 k2 h3 h3b hdg hre hOk hk hd kp r0 r1 s0 s1 hsz hgz
  go_wp2_with (fail)
  clear c19 c22 c23 c24 f19
  refine HFD.out.mono ?_
  generalize w0.setCell ⟨g, 19, none⟩ (.int .i64 ((s.fed : Int) + (b.length : Int))) = w1 at *
  rintro e w2 ⟨v', rfl, ho2, hs2, k12⟩
  have h4 := H2.out.bom hs2 k12
  have hO2 : ∀ x ∈ blkOf v', x ∉ g :: O := by
    intro x hx hm
    have := (ho2.lt x hx).1
    simp only [List.mem_cons] at hm
    rcases hm with rfl | hm
    · have := HSZ.out.2; omega
    · have := (l3 x hm).2; have := HSZ.out.1; omega
  have K2' := Lib.hid (K2.out.trans k12 (fun x hx hl => by simp only [List.mem_singleton] at hx; subst hx; simp))
  have hr3 := HR2.out.keep k12 (fun hm => hrg (by simp only [List.mem_singleton] at hm; rw [hm]; simp))
  have hnb := HOK.out.f
  have h3f := H3B.out
  have h3r := HOK.out.r
  have HW := Lib.hid (walk_c w2 base g n w2.heap.size d l (feedIn s b) O v' (Bom.feedOut s.bs b) (Nat.le_trans hbw K2'.out.size) ⟨vf, vr, vq, vs, hO, h4⟩ H3.out.u (by simp only [feedIn] at h3f; omega) ha hb hc H3.out.q H3.out.t ⟨HKK.out, H3.out.k HKK.out⟩
    (ho2.rd (Nat.le_refl _)) (.inr hO2) (by omega) (by simp only [feedIn]; omega) (by simp only [feedIn]; omega))
  have HR3 := Lib.hid hr3
  have he : (feedIn s b).fed - (Bom.feedOut s.bs b).length = s.fed + b.length - (Bom.feedOut s.bs b).length := rfl
  rw [he, ← HF.out] at HW
  clear h4 hO2 k12 hs2 ho2 hr3 HFD H2 K2 HR2 hnb h3f h3r he HF
  generalize hS : feedS d s b = S at *
  have HS := Lib.hid hS
  clear hS
  go_wp2_with (fail)
  refine HW.out.mono ?_
  rintro e w3 ⟨rfl, hp⟩
  obtain ⟨O3, h5, k3, n3⟩ := hp
  have hr4 := HR3.out.keep k3 hrg
  obtain ⟨vf3, vr3, vq3, vs3, rfl, h6⟩ := h5
  have c22 := h6.c (i := 22) rfl
  have c23 := h6.c (i := 23) rfl
  have r0 := hr4.cell_of (i := 0) rfl
  have r1 := hr4.cell_of (i := 1) rfl
  have s0 := hr4.frozen (i := 0) (by simp)
  have s1 := hr4.frozen (i := 1) (by simp)
  have hg6 := h6.lt
  have hr6 := hr4.lt
  have H6 := Lib.hid h6
  have K3 := Lib.hid (K2'.out.trans k3 (fun x hx _ => hx))
  have N3 := Lib.hid n3
  have h7 := h6.far hr4 ⟨by decide, by decide, by decide, by decide⟩ 0 (.int .i64 S.kind)
  have hr5 := hr4.set_ 0 (.int .i64 S.kind)
  have h8 := h7.far hr5 ⟨by decide, by decide, by decide, by decide⟩ 1 (.int .i64 S.pl)
  have H8 := Lib.hid h8
  clear h6 h7 h8 k3 n3 hr4 hr5 HW
  go_wp2_with (fail)
  refine bodyPost_ret (v := fltV S) (by simp [results, Try.results11, go_sem, fltV, r0, r1, s0, s1]) rfl ⟨by rw [HS.out], ?_⟩
  rw [HS.out]
  exact ⟨_, ⟨vf3, vr3, vq3, vs3, rfl, H8.out⟩, (K3.out.setNew _ _ (Nat.le_refl _)).setNew _ _ (Nat.le_refl _), fun k hk => (N3.out k hk).elim (fun h => .inl h) (fun h => .inr (Nat.le_trans K2'.out.size h))⟩
end Go.Proofs.Ytbjejmdbpikgjaa.Rd
