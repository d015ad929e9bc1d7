/- AM, 18: regions whose order is open. -/
import Derived.Test.YtcpkdbofohkipaaKAmCode2
set_option linter.unusedVariables false
set_option linter.unusedSimpArgs false
set_option linter.unusedSimpArgs false
set_option linter.unusedVariables false
namespace Go.AM
variable {P : Program} {N : Nat} {E : Env} {tm : Tm} {a : Act}

/-! ### What an operation looks at is all that it hangs on -/

theorem ev_congr {tm tm' : Tm} {x : AX} (h : ∀ t ∈ x.looks, tm t = tm' t) : x.ev tm = x.ev tm' := by
  cases x with
  | t n => exact h n (by simp [AX.looks])
  | c v => rfl

theorem map_congr' {tm tm' : Tm} {xs : List AX} (h : ∀ t ∈ xs.flatMap (·.looks), tm t = tm' t) : xs.map (·.ev tm) = xs.map (·.ev tm') :=
  List.map_congr_left fun x hx => ev_congr fun t ht => h t (List.mem_flatMap.2 ⟨x, hx, ht⟩)

theorem bound_congr {tm tm' : Tm} {x : Option AX} (h : ∀ t ∈ looksO x, tm t = tm' t) : bound tm x = bound tm' x := by
  cases x with
  | none => rfl
  | some x => simp only [bound, ev_congr (x := x) h]

theorem foldl_congr' {α β : Type} (f g : α → β → α) : ∀ (l : List β) (a : α), (∀ a, ∀ b ∈ l, f a b = g a b) → l.foldl f a = l.foldl g a := by
  intro l
  induction l with
  | nil => intro a _; rfl
  | cons b l ih =>
    intro a h
    rw [List.foldl_cons, List.foldl_cons, h a b (by simp)]
    exact ih _ fun a b' hb => h a b' (by simp [hb])

theorem apure_congr {tm tm' : Tm} {h : Hp} {op : AOp} (hl : ∀ t ∈ op.looks, tm t = tm' t) : apure op tm h = apure op tm' h := by
  cases op <;> simp only [AOp.looks, List.mem_append] at hl <;>
    first
      | rfl
      | (rename_i x; simp only [apure, ev_congr (x := x) hl]; done)
      | (rename_i _ x; simp only [apure, ev_congr (x := x) hl]; done)
      | (rename_i x _; simp only [apure, ev_congr (x := x) hl]; done)
      | (rename_i x y; simp only [apure, ev_congr (x := x) (fun t ht => hl t (.inl ht)), ev_congr (x := y) (fun t ht => hl t (.inr ht))]; done)
      | (rename_i x y z; simp only [apure, ev_congr (x := x) (fun t ht => hl t (.inl ht)), ev_congr (x := y) (fun t ht => hl t (.inr (.inl ht))), ev_congr (x := z) (fun t ht => hl t (.inr (.inr ht)))]; done)
      | (rename_i x lo hi; simp only [apure, ev_congr (x := x) (fun t ht => hl t (.inl ht)), bound_congr (x := lo) (fun t ht => hl t (.inr (.inl ht))), bound_congr (x := hi) (fun t ht => hl t (.inr (.inr ht)))]; done)
      | (rename_i z ps
         simp only [apure]
         congr 1
         exact foldl_congr' _ _ _ _ fun a p hp => by rw [ev_congr (x := p.2.2) fun t ht => hl t (List.mem_flatMap.2 ⟨p, hp, ht⟩)])
      | (rename_i f xs; simp only [apure, map_congr' hl]; done)

theorem AStep_congr {tm tm' : Tm} {h : Hp} {op : AOp} {K : AV → Hp → Prop} (hl : ∀ t ∈ op.looks, tm t = tm' t) : AStep P op K tm h = AStep P op K tm' h := by
  cases op
  case alloc => rfl
  case mkm => rfl
  case box x => simp only [AStep, ev_congr (x := x) hl]
  case bfz x => simp only [AStep, ev_congr (x := x) hl]
  case s2b x => simp only [AStep, ev_congr (x := x) hl]
  case bsl e sz xs =>
    have h1 : ∀ x ∈ xs, x.ev tm = x.ev tm' := fun x hx => ev_congr fun t ht => hl t (List.mem_flatMap.2 ⟨x, hx, ht⟩)
    have h2 : (xs.map fun x => (x.ev tm).cells) = xs.map fun x => (x.ev tm').cells := List.map_congr_left fun x hx => by rw [h1 x hx]
    simp only [AStep, h2]
    apply propext
    constructor
    · rintro ⟨p, q⟩; exact ⟨fun x hx => by rw [← h1 x hx]; exact p x hx, q⟩
    · rintro ⟨p, q⟩; exact ⟨fun x hx => by rw [h1 x hx]; exact p x hx, q⟩
  case st n x v =>
    simp only [AOp.looks, List.mem_append] at hl
    simp only [AStep, ev_congr (x := x) (fun t ht => hl t (.inl ht)), ev_congr (x := v) (fun t ht => hl t (.inr ht))]
  case app e sz b s x =>
    simp only [AOp.looks, List.mem_append] at hl
    simp only [AStep, ev_congr (x := s) (fun t ht => hl t (.inl ht)), ev_congr (x := x) (fun t ht => hl t (.inr ht))]
  case mks e sz b z l c =>
    simp only [AOp.looks, List.mem_append] at hl
    simp only [AStep, ev_congr (x := l) (fun t ht => hl t (.inl ht)), ev_congr (x := c) (fun t ht => hl t (.inr ht))]
  case mup ki m k v =>
    simp only [AOp.looks, List.mem_append] at hl
    simp only [AStep, ev_congr (x := m) (fun t ht => hl t (.inl ht)), ev_congr (x := k) (fun t ht => hl t (.inr (.inl ht))), ev_congr (x := v) (fun t ht => hl t (.inr (.inr ht)))]
  case call f xs => simp only [AStep, map_congr' (xs := xs) hl]
  case callv x xs =>
    simp only [AOp.looks, List.mem_append] at hl
    simp only [AStep, ev_congr (x := x) (fun t ht => hl t (.inl ht)), map_congr' (xs := xs) (fun t ht => hl t (.inr ht))]
  all_goals (simp only [AStep]; rw [apure_congr hl])

theorem QStep_congr {tm tm' : Tm} {h : Hp} {op : AOp} {v : AV} (hl : ∀ t ∈ op.looks, tm t = tm' t) : QStep P op v tm h = QStep P op v tm' h := by
  cases op
  case call f xs => simp only [QStep, map_congr' (xs := xs) hl]
  case callv x xs =>
    simp only [AOp.looks, List.mem_append] at hl
    simp only [QStep, ev_congr (x := x) (fun t ht => hl t (.inl ht)), map_congr' (xs := xs) (fun t ht => hl t (.inr ht))]
  all_goals (simp only [QStep]; rw [apure_congr hl])

theorem QRun_congr {tm tm' : Tm} {h : Hp} {op : AOp} {K : AV → Prop} (hl : ∀ t ∈ op.looks, tm t = tm' t) : QRun P op K tm h = QRun P op K tm' h := by
  cases op
  case call f xs => simp only [QRun, map_congr' (xs := xs) hl]
  case callv x xs =>
    simp only [AOp.looks, List.mem_append] at hl
    simp only [QRun, ev_congr (x := x) (fun t ht => hl t (.inl ht)), map_congr' (xs := xs) (fun t ht => hl t (.inr ht))]
  all_goals (simp only [QRun]; rw [apure_congr hl])

theorem QRun.step {tm : Tm} {h : Hp} {op : AOp} {K : AV → Prop} (hq : QRun P op K tm h) : ∃ v, QStep P op v tm h ∧ K v := by
  cases op
  case call f xs => obtain ⟨v, h1, h2⟩ := hq; exact ⟨v, h1, h2⟩
  case callv x xs =>
    simp only [QRun] at hq
    split at hq
    · rename_i f caps hev
      obtain ⟨v, h1, h2⟩ := hq
      exact ⟨v, by simp only [QStep, hev]; exact h1, h2⟩
    · exact hq.elim
  all_goals
    simp only [QRun] at hq
    split at hq
    · rename_i v hv
      exact ⟨v, hv, hq⟩
    · exact hq.elim

theorem apure_heapFree {tm : Tm} {h h' : Hp} {op : AOp} (hf : heapFree op = true) : apure op tm h = apure op tm h' := by
  cases op <;> first
    | rfl
    | (simp [heapFree] at hf; done)
    | (rename_i k x; cases k <;> simp [heapFree] at hf <;> (simp only [apure]; cases x.ev tm <;> rfl))

theorem QStep_heapFree {tm : Tm} {h h' : Hp} {op : AOp} {v : AV} (hf : heapFree op = true) : QStep P op v tm h = QStep P op v tm h' := by
  cases op
  case call f xs => simp [heapFree] at hf
  case callv x xs => simp [heapFree] at hf
  all_goals (simp only [QStep]; rw [apure_heapFree hf])

/-- A quiet step, run. -/
theorem QStep.astep {tm : Tm} {h : Hp} {op : AOp} {v : AV} (hq : QStep P op v tm h) (he : isEff (fun _ => true) op = false) : AStep P op (fun r h' => r = v ∧ h' = h) tm h := by
  cases op
  case call f xs => exact hq
  case callv x xs => simp [isEff] at he
  all_goals first
    | (simp [isEff] at he; done)
    | (simp only [QStep] at hq; simp only [AStep, hq]; exact ⟨trivial, trivial⟩)

end Go.AM
