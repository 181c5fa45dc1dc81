/- What comes of pieces, fed one by one, is what comes of all at once; and that is what the document says. No walk. -/
import Derived.Test.YtbjejmdbpikgjaaRd6
namespace Go.Proofs.Ytbjejmdbpikgjaa.Rd
set_option linter.unusedVariables false
set_option linter.unusedSimpArgs false
set_option maxRecDepth 100000
open Mach Gram Par Fld
def rs0 (l : Lim) : Rs := ⟨Bom.s0, mk0 l, 0, 0, 0, [], 0, 0, 0, false⟩
theorem ok0 (l : Lim) : Ok l 0 (rs0 l) := ⟨Bom.s0_ok, fun _ => rfl, upto0 l, by simp [rs0, Bom.s0], by simp [rs0], by simp [rs0], fun _ => rfl, by simp [rs0]⟩
/-- The reader that was fed p at once. -/
def R (d : Dia) (l : Lim) (p : Bs) : Rs := feedS d (rs0 l) p
def W (d : Dia) (l : Lim) (p : Bs) : Rdp.Wk := Rdp.wk d 0 0 (mk0 l) (Bom.feedOut Bom.s0 p) (p.length - (Bom.feedOut Bom.s0 p).length)
theorem R_eq (d : Dia) (l : Lim) (p : Bs) : R d l p = ⟨Bom.feedSt Bom.s0 p, (W d l p).mm, (W d l p).sq, (W d l p).st, p.length, (W d l p).recs, 0, (W d l p).kind, (W d l p).pl, false⟩ := by
  unfold R feedS
  rw [if_neg (by simp [rs0])]
  simp [walkS, feedIn, rs0, W]
theorem out_past {p : Bs} (h : Bom.feedOut Bom.s0 p ≠ []) : (Bom.feedSt Bom.s0 p).past = true ∧ (Bom.feedSt Bom.s0 p).held = 0 ∧ (Bom.feedOut Bom.s0 p).length ≤ p.length := by
  have h2 := Bom.feedSt_ok Bom.s0_ok p
  have h3 := feed_len Bom.s0 p
  have hp : (Bom.feedSt Bom.s0 p).past = true := by
    cases hh : (Bom.feedSt Bom.s0 p).past
    · exfalso
      apply h
      unfold Bom.feedSt at hh
      unfold Bom.feedOut
      simp only [Bom.s0, Bool.false_eq_true, if_false] at hh ⊢
      exact ((Bom.go_append p [] 0).1 hh).2.1
    · rfl
  refine ⟨hp, h2.2.1 hp, ?_⟩
  have : Bom.s0.held = 0 := rfl
  omega
theorem feedSt_cl (p : Bs) : (Bom.feedSt Bom.s0 p).closed = false := Bom.feedSt_closed rfl p
/-- Two readers of which the same will be told. -/
def Sim (S T : Rs) : Prop := S = T ∨ (S.kind ≠ 0 ∧ S.kind = T.kind ∧ S.pl = T.pl ∧ S.recs = T.recs ∧ S.handed = T.handed ∧ S.cl = T.cl)
theorem W_append (d : Dia) (l : Lim) (p b : Bs) :
    (((W d l p).kind ≠ 0 → W d l (p ++ b) = W d l p)) ∧
    ((W d l p).kind = 0 → W d l (p ++ b) = (Rdp.wk d (W d l p).sq (W d l p).st (W d l p).mm (Bom.feedOut (Bom.feedSt Bom.s0 p) b) (p.length + b.length - (Bom.feedOut (Bom.feedSt Bom.s0 p) b).length)).pre (W d l p).recs) := by
  obtain ⟨h1, h2⟩ := Bom.feed_append p b
  have hw : W d l (p ++ b) = Rdp.wk d 0 0 (mk0 l) (Bom.feedOut Bom.s0 p ++ Bom.feedOut (Bom.feedSt Bom.s0 p) b) (p.length + b.length - ((Bom.feedOut Bom.s0 p).length + (Bom.feedOut (Bom.feedSt Bom.s0 p) b).length)) := by
    unfold W
    rw [← h2, List.length_append, List.length_append]
  rw [hw, Rdp.wk_append]
  by_cases ho : Bom.feedOut Bom.s0 p = []
  · have hW : W d l p = ⟨0, 0, mk0 l, [], 0, 0⟩ := by unfold W; rw [ho]; rfl
    rw [hW, ho]
    refine ⟨fun h => absurd rfl h, fun _ => ?_⟩
    simp [Rdp.wk]
  · obtain ⟨hp, hh, hl⟩ := out_past ho
    have ho2 : Bom.feedOut (Bom.feedSt Bom.s0 p) b = b := (Bom.out_past (feedSt_cl p) hp b).1
    rw [ho2]
    have e1 : p.length + b.length - ((Bom.feedOut Bom.s0 p).length + b.length) = p.length - (Bom.feedOut Bom.s0 p).length := by omega
    have e2 : p.length - (Bom.feedOut Bom.s0 p).length + (Bom.feedOut Bom.s0 p).length = p.length := by omega
    have e3 : p.length + b.length - b.length = p.length := by omega
    rw [e1, e2, e3]
    change (_ → (if (W d l p).kind ≠ 0 then W d l p else (Rdp.wk d (W d l p).sq (W d l p).st (W d l p).mm b p.length).pre (W d l p).recs) = _) ∧ (_ → (if (W d l p).kind ≠ 0 then W d l p else (Rdp.wk d (W d l p).sq (W d l p).st (W d l p).mm b p.length).pre (W d l p).recs) = _)
    exact ⟨fun h => if_pos h, fun h => if_neg (by simpa using h)⟩
theorem sim_feed (d : Dia) (l : Lim) {S : Rs} {p : Bs} (b : Bs) (h : Sim S (R d l p)) : Sim (feedS d S b) (R d l (p ++ b)) := by
  obtain ⟨hA, hB⟩ := W_append d l p b
  rcases h with rfl | ⟨h1, h2, h3, h4, h5, h6⟩
  · by_cases hk : (W d l p).kind = 0
    · left
      have hw := hB hk
      unfold feedS
      rw [if_neg (by rw [R_eq]; simp [hk]), R_eq d l (p ++ b), hw, R_eq d l p]
      obtain ⟨e1, e2⟩ := Bom.feed_append p b
      simp [walkS, feedIn, e1, Rdp.Wk.pre]
    · right
      have hw := hA hk
      have hf : feedS d (R d l p) b = R d l p := by unfold feedS; rw [if_pos (.inr (by rw [R_eq]; exact hk))]
      rw [hf, R_eq d l (p ++ b), hw, R_eq d l p]
      exact ⟨hk, rfl, rfl, rfl, rfl, rfl⟩
  · have hk : (W d l p).kind ≠ 0 := by rw [R_eq] at h2; rw [h2] at h1; exact h1
    have hw := hA hk
    have hf : feedS d S b = S := by unfold feedS; rw [if_pos (.inr h1)]
    rw [hf]
    right
    rw [R_eq] at h2 h3 h4 h5 h6
    rw [R_eq d l (p ++ b), hw]
    exact ⟨h1, h2, h3, h4, h5, h6⟩
theorem sim_close (d : Dia) (l : Lim) {S : Rs} {p : Bs} (h : Sim S (R d l p)) : (closeS d S).recs = (closeS d (R d l p)).recs ∧ (closeS d S).kind = (closeS d (R d l p)).kind ∧ (closeS d S).pl = (closeS d (R d l p)).pl := by
  rcases h with rfl | ⟨h1, h2, h3, h4, h5, h6⟩
  · exact ⟨rfl, rfl, rfl⟩
  · have e1 : closeS d S = { S with cl := true } := by unfold closeS; rw [if_pos (.inr h1)]
    have e2 : closeS d (R d l p) = { R d l p with cl := true } := by unfold closeS; rw [if_pos (.inr (by rw [← h2]; exact h1))]
    rw [e1, e2]
    exact ⟨h4, h2, h3⟩
/-- The document's answer. -/
theorem close_parse (d : Dia) (hd : d.right = true) (l : Lim) (hl : 1 ≤ l.fields) (p : Bs) :
    parseP d l p = ((closeS d (R d l p)).recs, (closeS d (R d l p)).kind, ((closeS d (R d l p)).pl : Int)) := by
  rw [Rdp.top_parse d hd l hl p]
  obtain ⟨f1, f2, f3, f4⟩ := Bom.feed_whole p
  have hoff := Rdp.off_le p
  have hlen := feed_len Bom.s0 p
  have hz : Bom.s0.held = 0 := rfl
  have hcl : (Bom.closeOut (Bom.feedSt Bom.s0 p)).length ≤ (Bom.feedSt Bom.s0 p).held := by unfold Bom.closeOut; rw [List.length_take]; omega
  have hsl := congrArg List.length f4
  rw [List.length_append] at hsl
  have hstrip : Rdp.wk d 0 0 (mk0 l) (Bom.strip p) (Rdp.off p) = if (W d l p).kind ≠ 0 then W d l p else
      (Rdp.wk d (W d l p).sq (W d l p).st (W d l p).mm (Bom.closeOut (Bom.feedSt Bom.s0 p)) (p.length - (Bom.closeOut (Bom.feedSt Bom.s0 p)).length)).pre (W d l p).recs := by
    rw [← f4, Rdp.wk_append]
    by_cases ho : Bom.feedOut Bom.s0 p = []
    · have hW : W d l p = ⟨0, 0, mk0 l, [], 0, 0⟩ := by unfold W; rw [ho]; rfl
      have e1 : Rdp.off p + 0 = p.length - (Bom.closeOut (Bom.feedSt Bom.s0 p)).length := by
        rw [ho] at hsl
        simp only [List.length_nil] at hsl
        omega
      rw [hW, ho]
      simp only [Rdp.wk, List.length_nil, e1]
    · obtain ⟨hp, hh, hl2⟩ := out_past ho
      have hc0 : Bom.closeOut (Bom.feedSt Bom.s0 p) = [] := by unfold Bom.closeOut; rw [hh]; rfl
      have e1 : Rdp.off p = p.length - (Bom.feedOut Bom.s0 p).length := by rw [hc0] at hsl; simp only [List.length_nil] at hsl; omega
      rw [hc0, e1]
      rfl
  rw [hstrip]
  by_cases hk : (W d l p).kind = 0
  · rw [if_neg (by simpa using hk)]
    have hpl : (W d l p).pl = 0 := wk_pl d _ _ _ _ _ hk
    have e0 : closeS d (R d l p) = if (walkS d (closeIn (R d l p)) (Bom.closeOut (R d l p).bs) ((R d l p).fed - (Bom.closeOut (R d l p).bs).length)).kind ≠ 0 then walkS d (closeIn (R d l p)) (Bom.closeOut (R d l p).bs) ((R d l p).fed - (Bom.closeOut (R d l p).bs).length)
        else endS (walkS d (closeIn (R d l p)) (Bom.closeOut (R d l p).bs) ((R d l p).fed - (Bom.closeOut (R d l p).bs).length)) := by
      unfold closeS; rw [if_neg (by rw [R_eq]; simp [hk])]
    rw [e0]
    have e1 : walkS d (closeIn (R d l p)) (Bom.closeOut (R d l p).bs) ((R d l p).fed - (Bom.closeOut (R d l p).bs).length) =
        ⟨Bom.closeSt (Bom.feedSt Bom.s0 p), (Rdp.wk d (W d l p).sq (W d l p).st (W d l p).mm (Bom.closeOut (Bom.feedSt Bom.s0 p)) (p.length - (Bom.closeOut (Bom.feedSt Bom.s0 p)).length)).mm, (Rdp.wk d (W d l p).sq (W d l p).st (W d l p).mm (Bom.closeOut (Bom.feedSt Bom.s0 p)) (p.length - (Bom.closeOut (Bom.feedSt Bom.s0 p)).length)).sq, (Rdp.wk d (W d l p).sq (W d l p).st (W d l p).mm (Bom.closeOut (Bom.feedSt Bom.s0 p)) (p.length - (Bom.closeOut (Bom.feedSt Bom.s0 p)).length)).st, p.length, (W d l p).recs ++ (Rdp.wk d (W d l p).sq (W d l p).st (W d l p).mm (Bom.closeOut (Bom.feedSt Bom.s0 p)) (p.length - (Bom.closeOut (Bom.feedSt Bom.s0 p)).length)).recs, 0, (Rdp.wk d (W d l p).sq (W d l p).st (W d l p).mm (Bom.closeOut (Bom.feedSt Bom.s0 p)) (p.length - (Bom.closeOut (Bom.feedSt Bom.s0 p)).length)).kind, (Rdp.wk d (W d l p).sq (W d l p).st (W d l p).mm (Bom.closeOut (Bom.feedSt Bom.s0 p)) (p.length - (Bom.closeOut (Bom.feedSt Bom.s0 p)).length)).pl, true⟩ := by
      rw [R_eq]; rfl
    rw [e1]
    have hpl2 := wk_pl d (Bom.closeOut (Bom.feedSt Bom.s0 p)) (W d l p).sq (W d l p).st (W d l p).mm (p.length - (Bom.closeOut (Bom.feedSt Bom.s0 p)).length)
    generalize Rdp.wk d (W d l p).sq (W d l p).st (W d l p).mm (Bom.closeOut (Bom.feedSt Bom.s0 p)) (p.length - (Bom.closeOut (Bom.feedSt Bom.s0 p)).length) = X at *
    dsimp only
    by_cases hx : X.kind = 0
    · rw [if_neg (by simpa using hx)]
      have hxp := hpl2 hx
      unfold Rdp.fin endS enp Rdp.Wk.pre
      dsimp only
      rw [if_neg (by simpa using hx)]
      by_cases h1 : X.sq = 0
      · rw [if_neg (by simpa using h1)]
        simp only [h1, ne_eq, not_true_eq_false, if_false]
        by_cases h2 : (closeEv X.st).2 = 0
        · simp only [h2, ne_eq, not_true_eq_false, if_false]
          by_cases h3 : (take X.mm (closeEv X.st).1).2.2 = 0
          · simp [h3, stepS, hx, hxp]
          · simp [h3, stepS]
        · simp [h2, stepS]
      · simp [h1, stepS]
    · rw [if_pos (by simpa using hx)]
      unfold Rdp.fin Rdp.Wk.pre
      dsimp only
      rw [if_pos hx]
  · rw [if_pos hk]
    have e0 : closeS d (R d l p) = { R d l p with cl := true } := by unfold closeS; rw [if_pos (.inr (by rw [R_eq]; exact hk))]
    rw [e0, R_eq]
    unfold Rdp.fin
    rw [if_pos hk]
end Go.Proofs.Ytbjejmdbpikgjaa.Rd
