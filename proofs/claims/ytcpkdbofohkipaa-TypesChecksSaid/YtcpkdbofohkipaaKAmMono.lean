/- AM: what holds behind code, more widely. -/
import Derived.Test.YtcpkdbofohkipaaKAmSimp
set_option linter.unusedVariables false
set_option linter.unusedSimpArgs false
namespace Go.AM
variable {P : Program}

theorem AStep.mono {op : AOp} {K K' : AV → Hp → Prop} {tm : Tm} {h : Hp} (hk : ∀ v h, K v h → K' v h) (a : AStep P op K tm h) : AStep P op K' tm h := by
  cases op with
  | alloc z => exact fun id hd => hk _ _ (a id hd)
  | box x => exact ⟨a.1, fun id hd => hk _ _ (a.2 id hd)⟩
  | bsl e sz ps => exact ⟨a.1, fun id hd => hk _ _ (a.2 id hd)⟩
  | mkm => exact fun id hd => hk _ _ (a id hd)
  | call f xs => exact ACalls.mono a hk
  | callv x xs =>
    simp only [AStep] at a ⊢
    cases hx : x.ev tm <;> rw [hx] at a <;> first | exact a.elim | exact ACalls.mono a hk
  | s2b x =>
    simp only [AStep] at a ⊢
    cases hx : x.ev tm <;> rw [hx] at a <;> first | exact a.elim | exact hk _ _ a
  | st n x v =>
    simp only [AStep] at a ⊢
    obtain ⟨a1, a2, a3⟩ := a
    refine ⟨a1, a2, ?_⟩
    cases hx : x.ev tm <;> rw [hx] at a3 <;> first | exact a3.elim | skip
    · rename_i id off
      simp only at a3 ⊢
      cases hh : h id <;> rw [hh] at a3 <;> first | exact a3.elim | exact ⟨a3.1, hk _ _ a3.2⟩
    · rename_i id i off
      simp only at a3 ⊢
      cases hh : h id <;> rw [hh] at a3 <;> first | exact a3.elim | skip
      rename_i e sz xs
      simp only at a3 ⊢
      cases hr : xs[i]? <;> rw [hr] at a3 <;> first | exact a3.elim | exact ⟨a3.1, hk _ _ a3.2⟩
  | app e sz b s x =>
    simp only [AStep] at a ⊢
    cases he : elemsOf h sz (x.ev tm) <;> rw [he] at a <;> first | exact a.elim | skip
    rename_i ys
    simp only at a ⊢
    cases hx : s.ev tm <;> rw [hx] at a <;> first | exact a.elim | skip
    · cases ys with
      | nil => exact hk _ _ a
      | cons y ys => exact ⟨a.1, a.2.1, fun id hd => hk _ _ (a.2.2 id hd)⟩
    · rename_i id off len
      simp only at a ⊢
      refine ⟨a.1, ?_⟩
      have a2 := a.2
      cases hh : h id <;> rw [hh] at a2 <;> first | exact a2.elim | skip
      exact ⟨a2.1, a2.2.1, a2.2.2.1, a2.2.2.2.1, a2.2.2.2.2.1, fun id hd => hk _ _ (a2.2.2.2.2.2 id hd)⟩
  | mks e sz b z l c =>
    simp only [AStep] at a ⊢
    cases hl : l.ev tm <;> cases hc : c.ev tm <;> rw [hl, hc] at a <;> first | exact a.elim | skip
    exact ⟨a.1, a.2.1, a.2.2.1, a.2.2.2.1, fun id hd => hk _ _ (a.2.2.2.2 id hd)⟩
  | mup ki m k v =>
    simp only [AStep] at a ⊢
    cases hm : m.ev tm <;> rw [hm] at a <;> first | exact a.elim | skip
    rename_i id
    simp only at a ⊢
    cases hh : h id <;> rw [hh] at a <;> first | exact a.elim | skip
    rename_i es
    simp only at a ⊢
    cases hp : putK ki (k.ev tm) (v.ev tm) es <;> rw [hp] at a <;> first | exact a.elim | exact hk _ _ a
  | bfz x =>
    simp only [AStep] at a ⊢
    cases hx : x.ev tm <;> rw [hx] at a <;> first | exact a.elim | skip
    rename_i id off len
    simp only at a ⊢
    refine ⟨a.1, ?_⟩
    have a2 := a.2
    cases hh : h id <;> rw [hh] at a2 <;> first | exact a2.elim | exact ⟨a2.1, hk _ _ a2.2⟩
  | _ =>
    revert a
    unfold AStep
    simp only
    intro a
    split at a
    · exact hk _ _ a
    · exact a.elim

theorem QRun.mono {op : AOp} {K K' : AV → Prop} {tm : Tm} {h : Hp} (hk : ∀ v, K v → K' v) (a : QRun P op K tm h) : QRun P op K' tm h := by
  cases op with
  | call f xs => obtain ⟨v, a1, a2⟩ := a; exact ⟨v, a1, hk _ a2⟩
  | callv x xs =>
    simp only [QRun] at a ⊢
    cases hx : x.ev tm <;> rw [hx] at a <;> first | exact a.elim | skip
    obtain ⟨v, a1, a2⟩ := a; exact ⟨v, a1, hk _ a2⟩
  | _ =>
    revert a
    unfold QRun
    simp only
    intro a
    split at a
    · exact hk _ a
    · exact a.elim

theorem AOps.mono {K K' : Tm → Hp → Prop} (hk : ∀ tm h, K tm h → K' tm h) : ∀ {l : List AIns} {tm : Tm} {h : Hp}, AOps P l K tm h → AOps P l K' tm h
  | [], _, _, a => hk _ _ a
  | i :: l, tm, h, a => by
    simp only [AOps] at a ⊢
    split at a
    · exact AStep.mono (fun v h' x => AOps.mono hk x) a
    · split at a
      · split at a
        · rename_i hb; rw [if_pos hb]; exact AStep.mono (fun v h' x => AOps.mono hk x) a
        · rename_i hb; rw [if_neg hb]; exact AOps.mono hk a
      · exact a.elim

theorem DOps.mono {K K' : Tm → Hp → Prop} (hk : ∀ tm h, K tm h → K' tm h) : ∀ {l : List DStep} {tm : Tm} {h : Hp}, DOps P l K tm h → DOps P l K' tm h
  | [], _, _, a => hk _ _ a
  | s :: l, tm, h, a => by
    simp only [DOps] at a ⊢
    split at a
    · split at a
      · rename_i he; rw [if_pos he]; exact AStep.mono (fun v h' x => ⟨x.1, DOps.mono hk x.2⟩) a
      · rename_i he; rw [if_neg he]; exact QRun.mono (fun v x => DOps.mono hk x) a
    · exact DOps.mono hk a
    · exact a.elim

theorem AW.mono : ∀ {c : ACode} {Q1 Q2 : AExit → Tm → Hp → Prop} {tm : Tm} {h : Hp}, (∀ e tm h, Q1 e tm h → Q2 e tm h) → AW P c Q1 tm h → AW P c Q2 tm h
  | .skip, _, _, _, _, hq, a => hq _ _ _ a
  | .region _, _, _, _, _, hq, a => AOps.mono (fun _ _ x => hq _ _ _ x) a
  | .draw _, _, _, _, _, hq, a => DOps.mono (fun _ _ x => hq _ _ _ x) a
  | .seq x y, _, _, _, _, hq, a => AW.mono (c := x) (fun e tm h z => by
      cases e with
      | normal => exact AW.mono (c := y) hq z
      | exit i => exact hq _ _ _ z
      | ret => exact hq _ _ _ z) a
  | .cond c x y, _, _, tm, _, hq, a => by
    simp only [AW] at a ⊢
    cases hc : c.ev tm <;> rw [hc] at a <;> first | exact a.elim | skip
    rename_i b
    cases b
    · exact AW.mono (c := y) hq a
    · exact AW.mono (c := x) hq a
  | .block id b, _, _, _, _, hq, a => AW.mono (c := b) (fun e tm h z => by
      cases e with
      | normal => exact hq _ _ _ z
      | exit i =>
        simp only at z ⊢
        split at z
        · rename_i hi; rw [if_pos hi]; exact hq _ _ _ z
        · rename_i hi; rw [if_neg hi]; exact hq _ _ _ z
      | ret => exact hq _ _ _ z) a
  | .loop b, _, _, _, _, hq, ⟨I, n, h0, hr⟩ => ⟨I, n, h0, fun n tm h hi => AW.mono (c := b) (fun e tm h z => by
      cases e with
      | normal => exact z
      | exit i => exact hq _ _ _ z
      | ret => exact hq _ _ _ z) (hr n tm h hi)⟩
  | .exit _, _, _, _, _, hq, a => hq _ _ _ a
  | .ret, _, _, _, _, hq, a => hq _ _ _ a
end Go.AM
