/- read.Next, ref07.By and the statements' fed: what comes of pieces is what the document says. -/
import Derived.Test.YtbjejmdbpikgjaaTop1
import Derived.Test.YtbjejmdbpikgjaaRd6
import Derived.Test.YtbjejmdbpikgjaaRd1
import Derived.Test.YtbjejmdbpikgjaaTbl
import Derived.Test.YtbjejmdbpikgjaaOpen
namespace Go.Proofs.Ytbjejmdbpikgjaa.Rd
set_option linter.unusedVariables false
set_option linter.unusedSimpArgs false
set_option maxRecDepth 100000
open Go.RowKit Q Mach Dia Scan Ref4 Fld
attribute [local go_sem ↓] Go.wp_at_zero Go.wp_at_succ
theorem OTb.tail_ {w w' : World} {base : Nat} {A : Option Addr} {n c : Nat} {u : Value} {vs : List Value} {r : Row} {t : Tb} (h : OTb w base 65 9 (.slice A n c) (u :: vs) (r :: t)) {vq' : Value} (ho : Own w' base 65 1 vq' t.length vs) (k : Keeps (blkOf (.slice A n c)) w w') :
    OTb w' base 65 9 vq' vs t ∧ Own w' base 9 1 u r.length (r.map sv) := by
  obtain ⟨h1, h2, h3⟩ := h
  have hk : ∀ (i : Nat) x y, (u :: vs)[i]? = some x → (r :: t)[i]? = some y → Own w' base 9 1 x y.length (y.map sv) := fun i x y hx hy => (h3 i x y hx hy).keep k (fun a ha hm => (h3 i x y hx hy).apart h2 (by decide) a ha hm)
  exact ⟨⟨by simpa using h1, ho, fun i x y hx hy => hk (i + 1) x y (by simpa using hx) (by simpa using hy)⟩, hk 0 u r rfl rfl⟩
set_option maxHeartbeats 400000 in
theorem next_nil (w : World) (base g : Nat) (d : Dia) (s : Rs) (O : List Nat) (h : RA w base g d s O) (hr : s.recs = []) : Calls Try.prog 40 #[.pointer (some ⟨g, 0, none⟩)] w fun e w' => e = .returned (.tuple #[.slice none 0 0, .bool false]) ∧ w' = w := by
  obtain ⟨vf, vr, vq, vs, rfl, h⟩ := h
  obtain ⟨A, c, rfl, hn1, hm1⟩ := h.tab.2.1.form
  have c20 := h.c (i := 20) rfl
  rw [hr] at c20
  simp only [List.length_nil] at c20
  clear h hn1 hm1
  go_enter Try.func40, Try.ntmps40
  go_wp2_with (fail)
  go_ret2
  exact ⟨rfl, rfl⟩
def NextP (w : World) (base g : Nat) (d : Dia) (s : Rs) (r : Row) (rest : Tb) (O : List Nat) (e : Ending) (w' : World) : Prop :=
  ∃ v O', e = .returned (.tuple #[v, .bool true]) ∧ Own w' base 9 1 v r.length (r.map sv) ∧ (∀ k ∈ blkOf v, k ∉ g :: O') ∧ RA w' base g d { s with recs := rest, handed := s.handed + 1 } O' ∧ Keeps (g :: O) w w' ∧ (∀ k ∈ O', k ∈ O) ∧ ∀ k ∈ blkOf v, k < w.heap.size
set_option maxHeartbeats 4000000 in
theorem next_c (w : World) (base g : Nat) (d : Dia) (s : Rs) (O : List Nat) (r : Row) (rest : Tb) (h : RA w base g d s O) (hr : s.recs = r :: rest) (hh : s.handed ≤ 1000000) (hl : rest.length ≤ 1000000) :
    Calls Try.prog 40 #[.pointer (some ⟨g, 0, none⟩)] w (NextP w base g d s r rest O) := by
  obtain ⟨iS, hiS, hS0, hS1, hS2⟩ := info_parts infoStrs
  obtain ⟨vf, vr, vq, vs, rfl, h⟩ := h
  have ht := h.tab
  rw [hr] at ht
  obtain ⟨A, c, rfl, hn1, hm1⟩ := ht.2.1.form
  obtain ⟨u, vs', rfl⟩ : ∃ u vs', vs = u :: vs' := by
    have := ht.1
    cases vs with
    | nil => simp at this
    | cons u vs' => exact ⟨u, vs', rfl⟩
  obtain ⟨bq, off, u0, rfl, hbq, hbl, hu0, cq, fq, hset⟩ := ht.2.1.at_ (k := 0) (by simp)
  obtain rfl : u = u0 := by simpa using hu0
  have hs1 := hset (.slice none 0 0)
  have hfr := hs1.from_ (k := 1) (by simp)
  simp only [List.set_cons_zero, List.drop_succ_cons, List.drop_zero, Nat.one_mul, List.length_cons, Nat.add_sub_cancel, Nat.add_zero] at hfr hs1 cq fq hn1
  have k1 := Keeps.setCell w ⟨bq, off, none⟩ (.slice none 0 0)
  have hgq : g ≠ bq := fun e => h.tabG bq (by simp [tblks, blkOf]) e.symm
  have hb1 := h.blk.keep k1 (by simpa using hgq)
  have hfrom := run_sliceFrom (P := Try.prog) (t := 42) Try.underlying42 hiS hS1 (some ⟨bq, off, none⟩) (rest.length + 1) c 1 (by omega)
  simp only [Nat.one_mul, Nat.add_sub_cancel] at hfrom
  obtain ⟨htt, huu⟩ := OTb.tail_ (w' := w.setCell ⟨bq, off, none⟩ (.slice none 0 0)) ht hfr (k1.sub (by simp [blkOf]))
  have hbf := blkOf_from (size := 1) (some ⟨bq, off, none⟩) (rest.length + 1) c 1 rest.length (c - 1)
  simp only [Nat.one_mul] at hbf
  generalize (Value.slice (if c = 1 then some ⟨bq, off, none⟩ else (some (⟨bq, off, none⟩ : Addr)).map (·.add 1)) rest.length (c - 1)) = v5 at hfrom hfr htt hbf
  obtain ⟨A5, c5, rfl, _, _⟩ := htt.2.1.form
  obtain ⟨Au, cu, rfl, _, _⟩ := huu.form
  have c20 := h.c (i := 20) rfl
  have e20 := hb1.cell_of (i := 20) rfl
  have e21 := hb1.cell_of (i := 21) rfl
  have f20 := hb1.frozen (i := 20) (by simp [rC, rP, rT, mkC, Bom.St.cells])
  have f21 := hb1.frozen (i := 21) (by simp [rC, rP, rT, mkC, Bom.St.cells])
  simp only [List.length_cons] at c20 e20
  have hgl := h.lt
  have hgl1 := hb1.lt
  have k2 := (Keeps.setCell (w.setCell ⟨bq, off, none⟩ (.slice none 0 0)) ⟨g, 20, none⟩ (.slice A5 rest.length c5)).set1 ⟨g, 21, none⟩ (.int .i64 ((s.handed : Int) + 1)) (by simp)
  have hfld := (h.mka.fld.keep k1 (fun a ha hm => by simp only [List.mem_singleton] at hm; exact h.mka.fld.apart h.tab.2.1 (by decide) a ha (by simp [blkOf, hm])))
  have hrcd := (h.mka.rcd.keep k1 (fun a ha hm => by simp only [List.mem_singleton] at hm; exact h.mka.rcd.apart h.tab.2.1 (by decide) a ha (by simp [blkOf, hm])))
  have hA : RAt (((w.setCell ⟨bq, off, none⟩ (.slice none 0 0)).setCell ⟨g, 20, none⟩ (.slice A5 rest.length c5)).setCell ⟨g, 21, none⟩ (.int .i64 ((s.handed : Int) + 1))) base g d { s with recs := rest, handed := s.handed + 1 } vf vr (.slice A5 rest.length c5) vs' := by
    refine ⟨⟨?_, h.mka.low, hfld.keep k2 ?_, hrcd.keep k2 ?_⟩, htt.keep k2 ?_, ?_⟩
    · have := (hb1.set_ 20 (.slice A5 rest.length c5)).set_ 21 (.int .i64 ((s.handed : Int) + 1))
      simpa [rC, rP, rT, mkC, Bom.St.cells] using this
    · intro a ha hm; simp only [List.mem_singleton] at hm; exact hfld.apartBlk hb1 (by decide) a ha hm
    · intro a ha hm; simp only [List.mem_singleton] at hm; exact hrcd.apartBlk hb1 (by decide) a ha hm
    · intro a ha hm
      simp only [List.mem_singleton] at hm
      obtain ⟨t1, t2, t3⟩ := htt
      simp only [tblks, List.mem_append, List.mem_flatMap] at ha
      rcases ha with hx | ⟨y, hy, hx⟩
      · exact t2.apartBlk hb1 (by decide) a hx hm
      · obtain ⟨j, hj, rfl⟩ := List.getElem_of_mem hy
        exact (t3 j _ _ (List.getElem?_eq_getElem hj) (List.getElem?_eq_getElem (by omega))).apartBlk hb1 (by decide) a hx hm
    · intro x hx
      exact h.ap x (by simp only [List.flatMap_cons, List.mem_append]; exact .inr hx)
  have huk := huu.keep k2 (fun a ha hm => by simp only [List.mem_singleton] at hm; exact huu.apartBlk hb1 (by decide) a ha hm)
  have hK : Keeps (g :: (blkOf vf ++ (blkOf vr ++ blkOf (.slice (some ⟨bq, off, none⟩) (r :: rest).length c)))) w (((w.setCell ⟨bq, off, none⟩ (.slice none 0 0)).setCell ⟨g, 20, none⟩ (.slice A5 rest.length c5)).setCell ⟨g, 21, none⟩ (.int .i64 ((s.handed : Int) + 1))) :=
    ((k1.sub (by simp [blkOf])).set1 _ _ (by simp)).set1 _ _ (by simp)
  have hap : ∀ k ∈ blkOf (.slice Au r.length cu), k ∉ g :: (blkOf vf ++ (blkOf vr ++ blkOf (.slice A5 rest.length c5))) := by
    intro k hk hm
    simp only [List.mem_cons, List.mem_append] at hm
    rcases hm with hm | hm | hm | hm
    · exact huu.apartBlk hb1 (by decide) k hk hm
    · exact huu.apart hfld (by decide) k hk hm
    · exact h.ap k (by simp only [List.flatMap_cons, List.mem_append]; exact .inl hk) hm
    · exact huu.apart htt.2.1 (by decide) k hk hm
  have hin : ∀ k ∈ blkOf vf ++ (blkOf vr ++ blkOf (.slice A5 rest.length c5)), k ∈ blkOf vf ++ (blkOf vr ++ blkOf (.slice (some ⟨bq, off, none⟩) (r :: rest).length c)) := by
    intro k hk
    simp only [List.mem_append] at hk ⊢
    rcases hk with hk | hk | hk
    · exact .inl hk
    · exact .inr (.inl hk)
    · exact .inr (.inr (by simpa [blkOf] using hbf k hk))
  have hsz : ∀ k ∈ blkOf (.slice Au r.length cu), k < w.heap.size := by
    intro k hk
    exact (h.tab.lt k (by simp only [tblks, List.flatMap_cons, List.mem_append]; exact .inr (.inl hk))).2
  have HA := Lib.hid hA; have HU := Lib.hid huk; have HK := Lib.hid hK; have HP := Lib.hid hap; have HI := Lib.hid hin; have HZ := Lib.hid hsz
  clear hA huk hK hap hin hsz hbf htt huu hfr hs1 hset ht h hb1 k1 k2 hfld hrcd hu0 hn1 hm1 hiS hS0 hS1 hS2 hr
  go_enter Try.func40, Try.ntmps40
  go_wp2_with (refine wpList_slice (hfrom _) _ _ _ _ rfl rfl rfl rfl rfl rfl ?_)
  go_ret2
  exact ⟨_, _, rfl, HU.out, HP.out, ⟨vf, vr, _, vs', rfl, HA.out⟩, HK.out, HI.out, HZ.out⟩
end Go.Proofs.Ytbjejmdbpikgjaa.Rd
namespace Go.Proofs.Ytbjejmdbpikgjaa.By
set_option linter.unusedVariables false
set_option linter.unusedSimpArgs false
set_option maxRecDepth 100000
open Go.RowKit Q Mach
attribute [local go_sem ↓] Go.wp_at_zero Go.wp_at_succ
theorem infoStr : (Try.prog.info? 9).map (fun i => (i.zero, i.size, i.bytes)) = some (some (.string ⟨#[]⟩), 1, 16) := by kernel_rfl
def heldI (n m : Int) : Int := if n < 0 then 0 else if m < n then m else n
theorem held_c (n m : Int) (w : World) : Calls Try.prog 60 #[.int .i64 n, .int .i64 m] w fun e w' => e = .returned (.int .i64 (heldI n m)) ∧ w' = w := by
  by_cases h1 : n < 0
  · have h2 : heldI n m = 0 := by unfold heldI; rw [if_pos h1]
    rw [h2]
    go_enter Try.func60, Try.ntmps60
    go_wp2_with (fail)
    go_ret
    exact ⟨rfl, rfl⟩
  · by_cases h2 : m < n
    · have h3 : heldI n m = m := by unfold heldI; rw [if_neg h1, if_pos h2]
      rw [h3]
      go_enter Try.func60, Try.ntmps60
      go_wp2_with (fail)
      go_ret
      exact ⟨rfl, rfl⟩
    · have h3 : heldI n m = n := by unfold heldI; rw [if_neg h1, if_neg h2]
      rw [h3]
      go_enter Try.func60, Try.ntmps60
      go_wp2_with (fail)
      go_ret
      exact ⟨rfl, rfl⟩
theorem held_nat (n : Int) (m : Nat) : ∃ h : Nat, heldI n m = h ∧ h ≤ m ∧ (0 < n → 0 < m → 0 < h) ∧ (n ≤ 0 → h = 0) := by
  refine ⟨(heldI n m).toNat, ?_, ?_, ?_, ?_⟩ <;> unfold heldI <;> (repeat' split) <;> omega
def any0 (l : List Int) : Bool := l.any fun n => decide (0 < n)
theorem any0_take (zs : List Int) (k : Nat) (h : k < zs.length) : any0 (zs.take (k + 1)) = (any0 (zs.take k) || decide (0 < zs[k])) := by
  unfold any0
  rw [List.take_succ_eq_append_getElem h, List.any_append]
  simp
def ByP (s : Bs) (w : World) (e : Ending) (w' : World) : Prop :=
  ∃ (v : Value) (ps : List Bs), e = .returned v ∧ Own w' w.heap.size 9 1 v ps.length (ps.map sv) ∧ ps.flatten = s ∧ Keeps [] w w' ∧ ps.length ≤ 20000000
set_option maxHeartbeats 8000000 in
theorem by_c (s : Bs) (A : Value) (zs : List Int) (w : World) (hz : Rd w w.heap.size 1 A zs.length (zs.map (Value.int .i64))) (hs : s.length ≤ 10000) (hl : zs.length ≤ 1000) :
    Calls Try.prog 39 #[sv s, A] w (ByP s w) := by
  obtain ⟨iS, hiS, hS0, hS1, hS2⟩ := info_parts infoStr
  obtain ⟨Z, cz, rfl, hz1, hz2⟩ := hz.form
  unfold maxLen at hz2
  have HZ := Lib.hid hz
  have HH := Lib.hid (fun n m w => held_c n m w)
  clear hz
  go_enter Try.func39, Try.ntmps39
  go_wp2_with (fail)
  go_loopw [5, 15] (fun v i wr => ∃ k : Nat, k ≤ zs.length ∧ i = .int .i64 k ∧ v = .bool (any0 (zs.take k)) ∧ wr = w) (fun _ i _ => zs.length - (intOf i).toNat)
  case atStart => exact ⟨0, Nat.zero_le _, rfl, rfl, rfl⟩
  case round =>
    obtain ⟨k, hk, rfl, rfl, rfl⟩ := hrel
    by_cases hlt : k < zs.length
    · obtain ⟨bZ, oZ, uZ, rfl, _, huZ, cZ⟩ := HZ.out.at_ hlt
      have e1 : uZ = .int .i64 zs[k] := by
        rw [List.getElem?_map, List.getElem?_eq_getElem hlt] at huZ
        exact (Option.some.inj huZ).symm
      subst e1
      have hk0 : (0 : Int) ≤ (k : Int) := by omega
      have hkl : (k : Int) < (zs.length : Int) := by omega
      have HT := Lib.hid (any0_take zs k hlt)
      generalize zs[k] = n at *
      clear huZ
      generalize any0 (zs.take k) = bb at *
      cases bb
      · by_cases hn : 0 < n
        · go_wp2_with (fail)
          go_roundw
          case rel => exact ⟨k + 1, by omega, by go_num, by rw [HT.out]; simp [hn], trivial⟩
          case measure => simp [intOf]; omega
        · go_wp2_with (fail)
          go_roundw
          case rel => exact ⟨k + 1, by omega, by go_num, by rw [HT.out]; simp [hn], trivial⟩
          case measure => simp [intOf]; omega
      · go_wp2_with (fail)
        go_roundw
        case rel => exact ⟨k + 1, by omega, by go_num, by rw [HT.out]; rfl, trivial⟩
        case measure => simp [intOf]; omega
    · obtain rfl : k = zs.length := by omega
      have hkl : ¬ ((zs.length : Int) < (zs.length : Int)) := by omega
      rw [List.take_length]
      generalize wr = w0 at *
      have hzr := HZ.out
      by_cases hse : s = []
      · have hs0 : (s == []) = true := by simp [hse]
        have HSE := Lib.hid hse
        clear hse hzr
        go_wp2_with (fail)
        go_ret
        have ho := own_lit w0 9 [sv s] (by simp [maxLen])
        exact ⟨_, [s], rfl, by simpa using ho, by simp, Keeps.alloc [] w0 _, by simp⟩
      have hs0 : (s == []) = false := by simpa using hse
      obtain ⟨ab, hab⟩ : ∃ ab, any0 zs = ab := ⟨_, rfl⟩
      rw [hab]
      cases ab
      · go_wp2_with (fail)
        go_ret
        have ho := own_lit w0 9 [sv s] (by simp [maxLen])
        exact ⟨_, [s], rfl, by simpa using ho, by simp, Keeps.alloc [] w0 _, by simp⟩
      have HAB := Lib.hid hab
      have HSE := Lib.hid hse
      clear hab hse
      go_wp2_with (fail)
      clear hlt hk hkl hzr
      have hspos : 0 < s.length := List.length_pos_iff.mpr HSE.out
      go_loopw [8, 9] (fun v a wx => ∃ (ps : List Bs) (at_ : Nat), a = .int .i64 at_ ∧ at_ ≤ s.length ∧ Own wx w0.heap.size 9 1 v ps.length (ps.map sv) ∧ ps.flatten = s.take at_ ∧ ps.length ≤ zs.length * at_ ∧ Keeps [] w0 wx) (fun _ a _ => s.length - (intOf a).toNat)
      case atStart => exact ⟨[], 0, rfl, Nat.zero_le _, Own.nil_ _ _ _ _, by simp, by simp, Keeps.refl _ _⟩
      case round =>
        obtain ⟨ps, a, rfl, ha, ho, hfl, hpl, hkw⟩ := hrel
        by_cases hlt : a < s.length
        · have hal : (a : Int) < (s.length : Int) := by omega
          have HFL := Lib.hid hfl
          have HO := Lib.hid ho
          have HKW := Lib.hid hkw
          clear hfl ho hkw
          go_wp2_with (fail)
          go_loopw [8, 9, 39] (fun v b i wy => ∃ (ps' : List Bs) (b' j : Nat), j ≤ zs.length ∧ i = .int .i64 j ∧ b = .int .i64 b' ∧ a ≤ b' ∧ b' ≤ s.length ∧ Own wy w0.heap.size 9 1 v ps'.length (ps'.map sv) ∧ ps'.flatten = s.take b' ∧ ps'.length ≤ zs.length * a + j ∧ Keeps [] w0 wy ∧ (a < b' ∨ (b' = a ∧ any0 (zs.take j) = false))) (fun _ _ i _ => zs.length - (intOf i).toNat)
          case atStart => exact ⟨ps, a, 0, Nat.zero_le _, rfl, rfl, Nat.le_refl _, ha, HO.out, HFL.out, by omega, HKW.out, .inr ⟨rfl, by simp [any0]⟩⟩
          case round =>
            obtain ⟨ps', b', j, hj, rfl, rfl, hab, hbl, hoy, hfy, hly, hky, hor⟩ := hrel
            by_cases hjl : j < zs.length
            · have hzy := (HZ.out.keepB hky (by simp))
              obtain ⟨bZ, oZ, uZ, rfl, _, huZ, cZ⟩ := hzy.at_ hjl
              have e1 : uZ = .int .i64 zs[j] := by
                rw [List.getElem?_map, List.getElem?_eq_getElem hjl] at huZ
                exact (Option.some.inj huZ).symm
              subst e1
              have hj0 : (0 : Int) ≤ (j : Int) := by omega
              have hji : (j : Int) < (zs.length : Int) := by omega
              have HT := Lib.hid (any0_take zs j hjl)
              clear huZ hzy
              generalize zs[j] = n at *
              by_cases hb : b' < s.length
              · obtain ⟨h, hh1, hh2, hh3, hh4⟩ := held_nat n (s.length - b')
                have hsub : ((s.length : Int) - (b' : Int)) = ((s.length - b' : Nat) : Int) := by omega
                have hbi : (b' : Int) < (s.length : Int) := by omega
                have HHC := Lib.hid (HH.out n ((s.length - b' : Nat) : Int) wr)
                rw [hh1] at HHC
                have hmid := run_strMid (P := Try.prog) Try.underlying9 s b' (b' + h) (by omega) (by omega)
                have hsum : ((b' + h : Nat) : Int) = (b' : Int) + (h : Int) := by omega
                rw [hsum] at hmid
                have hlz : zs.length * a ≤ 1000 * 10000 := Nat.mul_le_mul hl (by omega)
                obtain ⟨v', w5, hap, hq6, k6, n6⟩ := run_append1 (P := Try.prog) (w := wr) (t := 65) (y := sv ((s.take (b' + h)).drop b')) Try.underlying65 hiS hS0 hS1 hS2 rfl hoy rfl (by simp only [maxLen]; omega) (by omega) hky.size 65
                have hk5 : Keeps [] w0 w5 := hky.trans k6 (fun z hz hzl => by have := (hoy.lt z hz).1; omega)
                have hfl5 : (ps' ++ [(s.take (b' + h)).drop b']).flatten = s.take (b' + h) := by
                  rw [List.flatten_append, hfy]
                  simp only [List.flatten_cons, List.flatten_nil, List.append_nil]
                  have := List.take_append_drop b' (s.take (b' + h))
                  rw [List.take_take, Nat.min_eq_left (by omega)] at this
                  exact this
                obtain ⟨A8, c8, rfl, _, _⟩ := hq6.form
                have hor5 : a < b' + h ∨ (b' + h = a ∧ any0 (zs.take (j + 1)) = false) := by
                  rcases hor with h1 | ⟨h1, h2⟩
                  · exact .inl (by omega)
                  · by_cases hn : 0 < n
                    · have := hh3 hn (by omega)
                      exact .inl (by omega)
                    · refine .inr ⟨by have := hh4 (by omega); omega, ?_⟩
                      rw [HT.out, h2]
                      simpa using hn
                have HF5 := Lib.hid hfl5
                have HO5 := Lib.hid hq6
                have HK5 := Lib.hid hk5
                have HR5 := Lib.hid hor5
                have HLY := Lib.hid hly
                clear hfl5 hq6 hk5 hor5 k6 n6 hoy hfy hor hh3 hh4 hly hlz hh1 HT hky
                clear hsum
                go_wp2_with (fail)
                with_reducible refine HHC.out.mono ?_
                rintro e w3 ⟨rfl, rfl⟩
                clear hsub HHC
                go_wp2_with (first | (with_reducible refine wpList_slice (hmid _) _ _ _ _ rfl rfl rfl rfl rfl rfl ?_) | (with_reducible refine wpList_append hap _ _ rfl rfl rfl rfl rfl ?_))
                go_roundw
                case rel => exact ⟨ps' ++ [(s.take (b' + h)).drop b'], b' + h, j + 1, by omega, by go_num, by go_num, by omega, by omega, by simpa using HO5.out, HF5.out, by have := HLY.out; simp; omega, HK5.out, HR5.out⟩
                case measure => simp [intOf]; omega
              · have hbi : ¬ ((b' : Int) < (s.length : Int)) := by omega
                have HO5 := Lib.hid hoy
                have HF5 := Lib.hid hfy
                have HK5 := Lib.hid hky
                have HLY := Lib.hid hly
                clear hoy hfy hky hly hor HT
                go_wp2_with (fail)
                go_roundw
                case rel => exact ⟨ps', b', j + 1, by omega, by go_num, rfl, hab, hbl, HO5.out, HF5.out, by have := HLY.out; omega, HK5.out, .inl (by omega)⟩
                case measure => simp [intOf]; omega
            · obtain rfl : j = zs.length := by omega
              have hji : ¬ ((zs.length : Int) < (zs.length : Int)) := by omega
              have hab2 : a < b' := by
                rcases hor with h1 | ⟨_, h2⟩
                · exact h1
                · rw [List.take_length, HAB.out] at h2; cases h2
              have hlen : ps'.length ≤ zs.length * b' := by
                have h1 : zs.length * (a + 1) ≤ zs.length * b' := Nat.mul_le_mul_left _ (by omega)
                rw [Nat.mul_add, Nat.mul_one] at h1
                omega
              have HO5 := Lib.hid hoy
              have HF5 := Lib.hid hfy
              have HK5 := Lib.hid hky
              have HLY := Lib.hid hlen
              clear hoy hfy hky hly hor hlen
              go_wp2_with (fail)
              go_roundw
              case rel => exact ⟨ps', b', rfl, hbl, HO5.out, HF5.out, HLY.out, HK5.out⟩
              case measure => simp [intOf]; omega
        · obtain rfl : a = s.length := by omega
          have hal : ¬ ((s.length : Int) < (s.length : Int)) := by omega
          rw [List.take_length] at hfl
          have hlz : zs.length * s.length ≤ 1000 * 10000 := Nat.mul_le_mul hl hs
          have HO5 := Lib.hid ho
          have HF5 := Lib.hid hfl
          have HK5 := Lib.hid hkw
          have HLY := Lib.hid (show ps.length ≤ 20000000 by omega)
          clear ho hfl hkw hpl hlz
          go_wp2_with (fail)
          go_ret
          exact ⟨_, ps, rfl, HO5.out, HF5.out, HK5.out, HLY.out⟩
end Go.Proofs.Ytbjejmdbpikgjaa.By
namespace Go.Proofs.Ytbjejmdbpikgjaa.Rd
set_option linter.unusedVariables false
set_option linter.unusedSimpArgs false
set_option maxRecDepth 100000
open Go.RowKit Q Mach Dia Scan Ref4 Fld Limits
attribute [local go_sem ↓] Go.wp_at_zero Go.wp_at_succ
theorem RA.notF {w : World} {base g r : Nat} {cs : List Value} {d : Dia} {s : Rs} {O : List Nat} (h : RA w base g d s O) (hb : Blk w r 35 cs) : r ∉ g :: O := by
  obtain ⟨vf, vr, vq, vs, rfl, h⟩ := h
  exact h.notIn hb ⟨by decide, by decide, by decide, by decide⟩
/-- A slice of rows of the caller's is written. -/
theorem RA.keepT {w w' : World} {base b2 g n : Nat} {d : Dia} {s : Rs} {O : List Nat} {vt : Value} {xs : List Value} (h : RA w base g d s O) (ho : Own w b2 65 1 vt n xs) (ha : ∀ x ∈ blkOf vt, x ∉ g :: O) (k : Keeps (blkOf vt) w w') : RA w' base g d s O := by
  obtain ⟨vf, vr, vq, vs, rfl, h⟩ := h
  refine ⟨vf, vr, vq, vs, rfl, h.keepF k ?_ ?_ ?_ ?_⟩
  · intro hm; exact ha g hm (by simp)
  · intro x hx hm; exact h.mka.fld.apart ho (by decide) x hx hm
  · intro x hx hm; exact h.mka.rcd.apart ho (by decide) x hx hm
  · intro x hx hm
    obtain ⟨t1, t2, t3⟩ := h.tab
    simp only [tblks, List.mem_append, List.mem_flatMap] at hx
    rcases hx with hx | ⟨y, hy, hx⟩
    · exact ha x hm (by simp only [List.mem_cons, List.mem_append]; exact .inr (.inr (.inr hx)))
    · obtain ⟨j, hj, rfl⟩ := List.getElem_of_mem hy
      exact (t3 j _ _ (List.getElem?_eq_getElem hj) (List.getElem?_eq_getElem (by omega))).apart ho (by decide) x hx hm
theorem RP.below2 {w w' : World} {base g : Nat} {d : Dia} {s s' : Rs} {O : List Nat} (h : RA w base g d s O) (hb : base ≤ w.heap.size) (hp : RP w base g d s' O w') : Below base w w' := by
  obtain ⟨O', h1, k1, n1⟩ := hp
  obtain ⟨l1, l2, l3⟩ := h.lt
  refine k1.below hb ?_
  intro x hx
  simp only [List.mem_cons] at hx
  rcases hx with rfl | hx
  · exact l1
  · exact (l3 x hx).1
theorem R0 (d : Dia) (l : Lim) : Sim (rs0 l) (R d l []) := by
  left
  rw [R_eq]
  have hW : W d l [] = ⟨0, 0, mk0 l, [], 0, 0⟩ := rfl
  rw [hW]
  rfl
theorem feedS_keep (d : Dia) (S : Rs) (b : Bs) : (feedS d S b).cl = S.cl ∧ (feedS d S b).handed = S.handed ∧ (feedS d S b).fed ≤ S.fed + b.length := by
  unfold feedS
  split <;> simp [walkS, feedIn]
/-- In the midst of the feeding. -/
structure FM (w0 w : World) (g r9 : Nat) (d : Dia) (l : Lim) (p : Bs) (S : Rs) (O : List Nat) (vp : Value) (ps : List Bs) : Prop where
  a : RA w w0.heap.size g d S O
  s : Sim S (R d l p)
  o : ∃ n, Ok l n S
  f : S.fed ≤ p.length
  c : S.cl = false
  h : S.handed = 0
  v : Own w w0.heap.size 9 1 vp ps.length (ps.map sv)
  n : ∀ x ∈ blkOf vp, x ∉ g :: O
  r : Blk w r9 35 [.int .i64 0, .int .i64 0]
  w : Below w0.heap.size w0 w
theorem FM.feed {w0 w w1 : World} {g r9 : Nat} {d : Dia} {l : Lim} {p b : Bs} {S : Rs} {O : List Nat} {vp : Value} {ps : List Bs} (h : FM w0 w g r9 d l p S O vp ps) (hp : RP w w0.heap.size g d (feedS d S b) O w1) : ∃ O', FM w0 w1 g r9 d l (p ++ b) (feedS d S b) O' vp ps := by
  have hB := RP.below2 h.a h.w.size hp
  obtain ⟨O', h1, k1, n1⟩ := hp
  obtain ⟨n, ho⟩ := h.o
  obtain ⟨e1, e2, e3⟩ := feedS_keep d S b
  refine ⟨O', h1, sim_feed d l b h.s, feed_ok ho b, by have := h.f; rw [List.length_append]; omega, e1.trans h.c, e2.trans h.h, h.v.keep k1 h.n, ?_, h.r.keep k1 (h.a.notF h.r), h.w.trans hB⟩
  intro x hx hm
  simp only [List.mem_cons] at hm
  rcases hm with hm | hm
  · exact h.n x hx (by rw [hm]; simp)
  · rcases n1 x hm with h2 | h2
    · exact h.n x hx (List.mem_cons_of_mem _ h2)
    · have := (h.v.lt x hx).2; omega
theorem FM.keep {w0 w w1 : World} {g r9 : Nat} {d : Dia} {l : Lim} {p : Bs} {S : Rs} {O : List Nat} {vp : Value} {ps : List Bs} (h : FM w0 w g r9 d l p S O vp ps) (k : Keeps [] w w1) : FM w0 w1 g r9 d l p S O vp ps :=
  ⟨h.a.keep k, h.s, h.o, h.f, h.c, h.h, h.v.keep k (by simp), h.n, h.r.keep k (by simp), h.w.trans (k.below h.w.size (by simp))⟩
def lenV : Value → Nat | .slice _ n _ => n | _ => 0
/-- In the midst of the fetching. -/
structure NM (w0 w : World) (g r9 r15 : Nat) (d : Dia) (K P : Int) (all : Tb) (done rest : Tb) (S : Rs) (O : List Nat) (vt : Value) (vs : List Value) : Prop where
  a : RA w w0.heap.size g d S O
  r : S.recs = rest
  e : done ++ rest = all
  h : S.handed = done.length
  t : OTb w w0.heap.size 65 9 vt vs done
  n : ∀ x ∈ tblks vt vs, x ∉ g :: O
  f : Blk w r9 35 [.int .i64 0, .int .i64 0]
  f2 : Blk w r15 35 [.int .i64 K, .int .i64 P]
  w : Below w0.heap.size w0 w
theorem NM.next {w0 w w1 w2 : World} {g r9 r15 : Nat} {d : Dia} {K P : Int} {all done rest : Tb} {S : Rs} {O O' : List Nat} {vt v vt' : Value} {vs : List Value} {r : Row} (h : NM w0 w g r9 r15 d K P all done (r :: rest) S O vt vs)
    (hv : Own w1 w0.heap.size 9 1 v r.length (r.map sv)) (hn : ∀ k ∈ blkOf v, k ∉ g :: O') (ha : RA w1 w0.heap.size g d { S with recs := rest, handed := S.handed + 1 } O') (k1 : Keeps (g :: O) w w1) (hin : ∀ k ∈ O', k ∈ O)
    (hv2 : Own w2 w0.heap.size 65 1 vt' (done.length + 1) (vs ++ [v])) (k2 : Keeps (blkOf vt) w1 w2) (hb2 : ∀ k ∈ blkOf vt', k ∈ blkOf vt ∨ w1.heap.size ≤ k) :
    NM w0 w2 g r9 r15 d K P all (done ++ [r]) rest { S with recs := rest, handed := S.handed + 1 } O' vt' (vs ++ [v]) := by
  have ht1 := h.t.keep k1 h.n
  have hvt : ∀ x ∈ blkOf vt, x ∉ g :: O' := by
    intro x hx hm
    simp only [List.mem_cons] at hm
    rcases hm with hm | hm
    · exact h.n x (by simp only [tblks, List.mem_append]; exact .inl hx) (by rw [hm]; simp)
    · exact h.n x (by simp only [tblks, List.mem_append]; exact .inl hx) (List.mem_cons_of_mem _ (hin x hm))
  have hf1 := h.f.keep k1 (h.a.notF h.f)
  have hf2 := h.f2.keep k1 (h.a.notF h.f2)
  have hB1 : Below w0.heap.size w0 w1 := h.w.trans (k1.below h.w.size (fun x hx => by
    simp only [List.mem_cons] at hx
    rcases hx with rfl | hx
    · exact h.a.lt.1
    · exact (h.a.lt.2.2 x hx).1))
  refine ⟨ha.keepT ht1.2.1 hvt k2, rfl, by rw [← h.e]; simp, by simp [h.h], ht1.push (by decide) hv hv2 k2, ?_, hf1.keep k2 (fun hm => ht1.2.1.apartBlk hf1 (by decide) _ hm rfl), hf2.keep k2 (fun hm => ht1.2.1.apartBlk hf2 (by decide) _ hm rfl), hB1.trans (k2.below hB1.size (fun x hx => (ht1.2.1.lt x hx).1))⟩
  intro x hx hm
  simp only [tblks, List.mem_append, List.flatMap_append, List.flatMap_cons, List.flatMap_nil, List.append_nil] at hx
  rcases hx with hx | hx | hx
  · rcases hb2 x hx with h2 | h2
    · exact hvt x h2 hm
    · obtain ⟨l1, l2, l3⟩ := ha.lt
      simp only [List.mem_cons] at hm
      rcases hm with hm | hm
      · omega
      · have := (l3 x hm).2; omega
  · refine h.n x (by simp only [tblks, List.mem_append]; exact .inr hx) ?_
    simp only [List.mem_cons] at hm ⊢
    rcases hm with hm | hm
    · exact .inl hm
    · exact .inr (hin x hm)
  · exact hn x hx hm
theorem closeS_keep (d : Dia) (S : Rs) : (closeS d S).handed = S.handed ∧ (closeS d S).recs.length ≤ S.recs.length + 3 + S.bs.held := by
  have h1 : (Bom.closeOut S.bs).length ≤ S.bs.held := by unfold Bom.closeOut; rw [List.length_take]; omega
  have h2 := wk_recs d (Bom.closeOut S.bs) S.sq S.st S.mm (S.fed - (Bom.closeOut S.bs).length)
  have h3 : ∀ q : Option Row, q.toList.length ≤ 1 := fun q => by cases q <;> simp
  unfold closeS
  split
  · exact ⟨rfl, by dsimp only; omega⟩
  · split
    · refine ⟨rfl, ?_⟩
      simp only [walkS, closeIn, List.length_append]; omega
    · unfold endS
      split
      · refine ⟨rfl, ?_⟩
        simp only [stepS, walkS, closeIn, List.length_append]; omega
      · refine ⟨rfl, ?_⟩
        have := h3 (enp (walkS d (closeIn S) (Bom.closeOut S.bs) (S.fed - (Bom.closeOut S.bs).length)).sq (walkS d (closeIn S) (Bom.closeOut S.bs) (S.fed - (Bom.closeOut S.bs).length)).st (walkS d (closeIn S) (Bom.closeOut S.bs) (S.fed - (Bom.closeOut S.bs).length)).mm).o
        simp only [List.length_append]
        have h5 : (walkS d (closeIn S) (Bom.closeOut S.bs) (S.fed - (Bom.closeOut S.bs).length)).recs.length ≤ S.recs.length + S.bs.held := by
          simp only [walkS, closeIn, List.length_append]; omega
        omega
def FedP (x : Tb × Nat × Int) (w : World) (e : Ending) (w' : World) : Prop :=
  ∃ v, e = .returned (.tuple #[v, .agg #[.int .i64 x.2.1, .int .i64 x.2.2], .bool true]) ∧ Tbl w' w'.heap.size v x.1 ∧ Keeps [] w w'
set_option maxHeartbeats 8000000 in
theorem fed_c (d : Dia) (hd : d.right = true) (l : Lim) (ha : 1 ≤ l.field ∧ l.field ≤ 2147483648) (hb : 1 ≤ l.fields ∧ l.fields ≤ 2147483648) (hc : 1 ≤ l.records ∧ l.records ≤ 2147483648) (s : Bs) (hs : s.length ≤ 4000) (A : Value) (zs : List Int) (w : World)
    (hz : Rd w w.heap.size 1 A zs.length (zs.map (Value.int .i64))) (hl : zs.length ≤ 1000) :
    Calls Try.prog 16 #[diaV d, limV l.field l.fields l.records l.uniform, sv s, A] w (FedP (Par.parseP d l s) w) := by
  obtain ⟨iS, hiS, hS0, hS1, hS2⟩ := info_parts infoStrs
  have HN := Lib.hid (fun w => new_c d hd l ha hb hc w)
  have HCP := Lib.hid (close_parse d hd l hb.1 s)
  have HR0 := Lib.hid (R0 d l)
  have HL := Lib.hid (And.intro ha.2 (And.intro hb.2 hc.2))
  have HOK := Lib.hid (ok0 l)
  have HZ := Lib.hid hz
  obtain ⟨Z, cz, rfl, hz1, hz2⟩ := hz.form
  unfold maxLen at hz2
  have HBY := Lib.hid (fun w h => By.by_c s (.slice Z zs.length cz) zs w h (by omega) hl)
  have kp := ((Keeps.alloc [] w (.cells #[bv d.delim, bv d.quote, .int .i64 d.fin] 23)).alloc1 (.cells #[.int .i64 l.field, .int .i64 l.fields, .int .i64 l.records, .bool l.uniform] 25)).alloc1 (.cells #[.int .i64 0, .int .i64 0] 35)
  have hb0 := ((Blk.new w 23 [bv d.delim, bv d.quote, .int .i64 d.fin]).alloc (.cells #[.int .i64 l.field, .int .i64 l.fields, .int .i64 l.records, .bool l.uniform] 25)).alloc (.cells #[.int .i64 0, .int .i64 0] 35)
  have hb1 := (Blk.new (w.alloc (.cells #[bv d.delim, bv d.quote, .int .i64 d.fin] 23)) 25 [.int .i64 l.field, .int .i64 l.fields, .int .i64 l.records, .bool l.uniform]).alloc (.cells #[.int .i64 0, .int .i64 0] 35)
  have hb2 := Blk.new ((w.alloc (.cells #[bv d.delim, bv d.quote, .int .i64 d.fin] 23)).alloc (.cells #[.int .i64 l.field, .int .i64 l.fields, .int .i64 l.records, .bool l.uniform] 25)) 35 [.int .i64 0, .int .i64 0]
  simp only [World.size_alloc] at hb1 hb2
  obtain ⟨D, hD⟩ : ∃ D : Dia, D = d := ⟨_, rfl⟩
  obtain ⟨L, hLL⟩ : ∃ L : Lim, L = l := ⟨_, rfl⟩
  rw [← hD, ← hLL] at HN HCP HR0
  rw [← hLL] at HOK HL
  rw [← hD, ← hLL] at ⊢
  rw [← hD, ← hLL] at kp hb0 hb1 hb2
  clear hz hd ha hb hc hD hLL d l
  obtain ⟨x, y, z⟩ := D
  obtain ⟨la, lb, lc, lu⟩ := L
  go_enter Try.func16, Try.ntmps16
  go_upto_region 1 with (fail)
  generalize ((w.alloc (.cells #[bv x, bv y, .int .i64 z] 23)).alloc (.cells #[.int .i64 la, .int .i64 lb, .int .i64 lc, .bool lu] 25)).alloc (.cells #[.int .i64 0, .int .i64 0] 35) = w0 at *
  have c0 := hb0.cell_of (i := 0) rfl
  have c1 := hb0.cell_of (i := 1) rfl
  have c2 := hb0.cell_of (i := 2) rfl
  have e0 := hb1.cell_of (i := 0) rfl
  have e1 := hb1.cell_of (i := 1) rfl
  have e2 := hb1.cell_of (i := 2) rfl
  have e3 := hb1.cell_of (i := 3) rfl
  go_wp2_with (fail)
  refine (HN.out _).mono ?_
  rintro e w1 ⟨g, rfl, hRA, k1⟩
  have hr9 := hb2.keep k1 (by simp)
  have k01 := kp.trans k1 (by simp)
  have hsz := kp.size
  have HRA := Lib.hid hRA
  have HR9 := Lib.hid hr9
  have K01 := Lib.hid k01
  clear c0 c1 c2 e0 e1 e2 e3 hb0 hb1 hb2 hRA hr9 k1 kp HN
  have HBY1 := Lib.hid (HBY.out w1 (HZ.out.keepB k01 (by simp) |>.more k01.size))
  clear k01 HBY
  go_wp2_with (fail)
  refine HBY1.out.mono ?_
  rintro e w2 ⟨vp, ps, rfl, ho2, hfl, k2, hpl⟩
  have hg1 := HRA.out.lt
  have k02 := K01.out.trans k2 (by simp)
  have hFM : FM w w2 g (w.heap.size + 1 + 1) ⟨x, y, z⟩ ⟨la, lb, lc, lu⟩ [] (rs0 ⟨la, lb, lc, lu⟩) [] vp ps := by
    refine ⟨(HRA.out.keep k2).less hsz, HR0.out, ⟨0, HOK.out⟩, by simp [rs0], rfl, rfl, ho2.less (by have := K01.out.size; omega), ?_, HR9.out.keep k2 (by simp), k02.below (Nat.le_refl _) (by simp)⟩
    intro q hq hm
    rw [List.mem_singleton] at hm
    have := (ho2.lt q hq).1
    omega
  obtain ⟨Ap, cp, rfl, hp1, hp2⟩ := ho2.form
  unfold maxLen at hp2
  have HFM := Lib.hid hFM
  have HFL := Lib.hid hfl
  clear hFM hfl ho2 k2 k02 hg1 HRA HR9 K01 HBY1 HR0 HOK
  go_wp2_with (fail)
  go_loopw [36] (fun i wr => ∃ (k : Nat) (S : Rs) (O : List Nat), k ≤ ps.length ∧ i = .int .i64 k ∧ FM w wr g (w.heap.size + 1 + 1) ⟨x, y, z⟩ ⟨la, lb, lc, lu⟩ (ps.take k).flatten S O (.slice Ap ps.length cp) ps) (fun i _ => ps.length - (intOf i).toNat)
  case atStart => exact ⟨0, _, _, Nat.zero_le _, rfl, HFM.out⟩
  case round =>
    obtain ⟨k, S, O, hk, rfl, hF⟩ := hrel
    clear HFM
    by_cases hlt : k < ps.length
    · have hfl2 : ((ps.take k).flatten).length + ps[k].length ≤ s.length := by
        have h1 : ((ps.take (k + 1)).flatten).length ≤ ps.flatten.length := by
          rw [← List.take_append_drop (k + 1) ps, List.flatten_append, List.length_append, List.take_append_drop]
          omega
        rw [HFL.out, List.take_succ_eq_append_getElem hlt, List.flatten_append, List.length_append] at h1
        simpa using h1
      obtain ⟨gp, op, up, rfl, _, _, hup, cup, _, _⟩ := hF.v.at_ hlt
      have e1 : up = sv ps[k] := by
        rw [List.getElem?_map, List.getElem?_eq_getElem hlt] at hup
        exact (Option.some.inj hup).symm
      subst e1
      have hk0 : (0 : Int) ≤ (k : Int) := by omega
      have hki : (k : Int) < (ps.length : Int) := by omega
      obtain ⟨v1, w3, hcv, ho3, k3, hbl3⟩ := run_toBytes (P := Try.prog) wr ps[k] Try.underlying9 Try.underlying37 Try.underlying5 (by simp only [maxLen]; omega)
      have hF3 := hF.keep k3
      obtain ⟨n, hok⟩ := hF.o
      have hgv : ps[k] = [] ∨ ∀ q ∈ blkOf v1, q ∉ g :: O := by
        right
        intro q hq hm
        obtain ⟨l1, l2, l3⟩ := hF.a.lt
        rw [hbl3, List.mem_singleton] at hq
        rw [List.mem_cons] at hm
        rcases hm with hm | hm
        · omega
        · have := (l3 q hm).2; omega
      have HFD := Lib.hid (feed_c w3 w.heap.size g n w3.heap.size ⟨x, y, z⟩ ⟨la, lb, lc, lu⟩ S O v1 ps[k] hF3.w.size hF3.a hok HL.out.1 HL.out.2.1 HL.out.2.2 (ho3.rd (Nat.le_refl _)) hgv (by have := hF.f; omega))
      have HF3 := Lib.hid hF3
      have hsplit : (ps.take (k + 1)).flatten = (ps.take k).flatten ++ ps[k] := by rw [List.take_succ_eq_append_getElem hlt, List.flatten_append]; simp
      have HSP := Lib.hid hsplit
      obtain ⟨A1, cp1, rfl, _, _⟩ := ho3.form
      clear hF hF3 hok hgv ho3 k3 hbl3 hup hfl2 hsplit
      generalize ps[k] = pk at *
      go_wp2_with (with_reducible refine wpList_convert hcv _ rfl rfl rfl ?_)
      with_reducible refine HFD.out.mono ?_
      rintro e w4 ⟨rfl, hp4⟩
      obtain ⟨O4, hF4⟩ := HF3.out.feed hp4
      rw [← HSP.out] at hF4
      have HF4 := Lib.hid hF4
      clear hp4 hF4 hcv cup
      go_wp2_with (fail)
      go_roundw
      case rel => exact ⟨k + 1, _, _, by omega, by go_num, HF4.out⟩
      case measure => simp [intOf]; omega
    · obtain rfl : k = ps.length := by omega
      have hki : ¬ ((ps.length : Int) < (ps.length : Int)) := by omega
      have hF := hF
      rw [List.take_length, HFL.out] at hF
      obtain ⟨n, hok⟩ := hF.o
      have HCL := Lib.hid (close_c wr w.heap.size g n ⟨x, y, z⟩ ⟨la, lb, lc, lu⟩ S O hF.w.size hF.a hok HL.out.1 HL.out.2.1 HL.out.2.2 (by have := hF.f; omega))
      obtain ⟨q1, q2, q3⟩ := sim_close ⟨x, y, z⟩ ⟨la, lb, lc, lu⟩ hF.s
      have hcp := HCP.out
      rw [← q1, ← q2, ← q3] at hcp
      obtain ⟨t1, t2⟩ := closeS_keep ⟨x, y, z⟩ S
      have t3 := hok.r
      have t4 := hok.f
      have t5 := hF.f
      have t6 := hF.h
      have HX := Lib.hid hcp
      have HF := Lib.hid hF
      clear hF hok q1 q2 q3 hcp HCP
      generalize hT : closeS ⟨x, y, z⟩ S = T at *
      have hTl : T.recs.length ≤ 9000 := by omega
      have hTh : T.handed = 0 := by omega
      have HTT := Lib.hid hT
      simp only [fltV] at HCL
      clear hT t1 t2 t3 t4 t5 t6
      go_wp2_with (fail)
      with_reducible refine HCL.out.mono ?_
      rintro e w4 ⟨rfl, hp4⟩
      have hB4 := HF.out.w.trans (RP.below2 HF.out.a HF.out.w.size hp4)
      obtain ⟨O4, h4, k4, n4⟩ := hp4
      have hr4 := HF.out.r.keep k4 (HF.out.a.notF HF.out.r)
      have ka := Keeps.alloc [] w4 (.cells #[.int .i64 T.kind, .int .i64 T.pl] 35)
      have hNM : NM w (w4.alloc (.cells #[.int .i64 T.kind, .int .i64 T.pl] 35)) g (w.heap.size + 1 + 1) w4.heap.size ⟨x, y, z⟩ T.kind T.pl T.recs [] T.recs T O4 (.slice none 0 0) [] :=
        ⟨h4.keep ka, rfl, by simp, by simp [hTh], OTb.nil_ _ _ _ _, by simp [tblks, blkOf], hr4.keep ka (by simp), Blk.new w4 35 _, hB4.trans (ka.below hB4.size (by simp))⟩
      have HNM := Lib.hid hNM
      clear hB4 h4 k4 n4 hr4 ka hNM HF HCL
      go_wp2_with (fail)
      generalize w4.alloc (.cells #[.int .i64 T.kind, .int .i64 T.pl] 35) = w5 at *
      generalize w4.heap.size = r15 at *
      go_loopw [16] (fun v wx => ∃ (done rest : Tb) (S' : Rs) (O : List Nat) (vs : List Value), NM w wx g (w.heap.size + 1 + 1) r15 ⟨x, y, z⟩ T.kind T.pl T.recs done rest S' O v vs) (fun v _ => T.recs.length - lenV v)
      case atStart => exact ⟨[], T.recs, T, O4, [], HNM.out⟩
      case round =>
        obtain ⟨done, rest, S', O', vs, hN⟩ := hrel
        clear HNM
        obtain ⟨At, ct, rfl, hn1, hm1⟩ := hN.t.2.1.form
        have hlen := congrArg List.length hN.e
        rw [List.length_append] at hlen
        cases rest with
        | nil =>
          have HNX := Lib.hid (next_nil wr w.heap.size g ⟨x, y, z⟩ S' O' hN.a hN.r)
          have HN2 := Lib.hid hN
          clear hN
          go_wp2_with (fail)
          with_reducible refine HNX.out.mono ?_
          rintro e w6 ⟨rfl, rfl⟩
          go_upto_region 13 with (fail)
          have r0 := HN2.out.f.cell_of (i := 0) rfl
          have r1 := HN2.out.f.cell_of (i := 1) rfl
          have s0 := HN2.out.f.frozen (i := 0) (by simp)
          have s1 := HN2.out.f.frozen (i := 1) (by simp)
          have q0 := HN2.out.f2.cell_of (i := 0) rfl
          have q1 := HN2.out.f2.cell_of (i := 1) rfl
          have hl9 := HN2.out.f.lt
          have hl15 := HN2.out.f2.lt
          have hdone : done = T.recs := by have := HN2.out.e; simpa using this
          have HDN := Lib.hid hdone
          clear hdone hF
          go_region
          all_goals
            go_wp2_with (fail)
            have k9 := ((Keeps.setCell w6 ⟨w.heap.size + 1 + 1, 0, none⟩ (.int .i64 T.kind)).set1 ⟨w.heap.size + 1 + 1, 1, none⟩ (.int .i64 T.pl) (by simp)).drew1
            have hT9 := HN2.out.t.keep k9 (fun q hq hm => by rw [List.mem_singleton] at hm; exact Wh.OTb.apartB HN2.out.t HN2.out.f (by decide) (by decide) q hq hm)
            have hB9 := HN2.out.w.trans (k9.below HN2.out.w.size (by simp; omega))
            refine bodyPost_ret (v := .tuple #[.slice At done.length ct, .agg #[.int .i64 T.kind, .int .i64 T.pl], .bool true]) (by simp [results, Try.results16, go_sem, r0, r1, s0, s1]) rfl ⟨.slice At done.length ct, ?_, ?_, Keeps.of_below hB9 []⟩
            · rw [HX.out]
            · rw [HX.out]
              have := hT9.tbl (Nat.le_refl _)
              rw [HDN.out] at this
              rw [HDN.out]
              exact this
        | cons r rest =>
          have HNX := Lib.hid (next_c wr w.heap.size g ⟨x, y, z⟩ S' O' r rest hN.a hN.r (by have := hN.h; simp at hlen; omega) (by simp at hlen; omega))
          have HN2 := Lib.hid hN
          have hlen2 : done.length < T.recs.length := by simp at hlen; omega
          clear hN hF hlen
          go_wp2_with (fail)
          with_reducible refine HNX.out.mono ?_
          rintro e w6 ⟨v, O6, rfl, hv, hnv, ha6, k6, hin6, hlt6⟩
          have ht6 := HN2.out.t.keep k6 HN2.out.n
          have hb6 : w.heap.size ≤ w6.heap.size := Nat.le_trans HN2.out.w.size k6.size
          obtain ⟨vt', w7, hap, hq7, k7, n7⟩ := run_append1 (P := Try.prog) (t := 42) Try.underlying42 hiS hS0 hS1 hS2 rfl ht6.2.1 (y := v) (by obtain ⟨a, b, rfl, _, _⟩ := hv.form; rfl) (by simp only [maxLen]; omega) (by omega) hb6 42
          have hN7 := HN2.out.next hv hnv ha6 k6 hin6 hq7 k7 n7
          obtain ⟨A9, c9, rfl, _, _⟩ := hv.form
          obtain ⟨A8, c8, rfl, _, _⟩ := hq7.form
          have HN7 := Lib.hid hN7
          clear hN7 hv hnv ha6 k6 hin6 hlt6 ht6 hq7 k7 n7 HN2 HNX
          go_wp2_with (with_reducible refine wpList_append hap _ _ rfl rfl rfl rfl rfl ?_)
          go_roundw
          case rel => exact ⟨done ++ [r], rest, _, _, _, by simpa using HN7.out⟩
          case measure => simp [lenV]; omega
end Go.Proofs.Ytbjejmdbpikgjaa.Rd
