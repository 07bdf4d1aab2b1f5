/- The executor is sound: a region that draws its order, all of it. -/
import Derived.Test.YtbbpmhbeohpmnaaEng8
namespace Go.Proofs.Ytbbpmhbeohpmnaa.Rx
open Go.RowKit
variable {P : Program} {Z : World → Prop}

theorem findE_take {ent : List En} {i0 : Nat} (hi : ∀ (q : Nat) (e : En), ent[q]? = some e → e.i = i0 + q) : ∀ (k j : Nat),
    findE j (ent.take k) = if i0 ≤ j ∧ j < i0 + k then ent[j - i0]? else none := by
  intro k j
  induction ent generalizing i0 k with
  | nil => simp [findE]
  | cons e r ih =>
    have h0 : e.i = i0 := hi 0 e (by simp)
    have ih' := ih (i0 := i0 + 1) (fun q e' h => by rw [hi (q + 1) e' (by simpa using h)]; omega)
    cases k with
    | zero => simp [findE]; omega
    | succ k =>
      simp only [List.take_succ_cons, findE, cond_eq_ite, Nat.beq_eq, h0]
      by_cases hj : i0 = j
      · subst hj
        simp
      · rw [if_neg hj, ih' k]
        by_cases hc : i0 + 1 ≤ j ∧ j < i0 + 1 + k
        · rw [if_pos hc, if_pos (by omega)]
          obtain ⟨m, rfl⟩ : ∃ m, j = i0 + 1 + m := ⟨j - (i0 + 1), by omega⟩
          rw [show i0 + 1 + m - (i0 + 1) = m by omega, show i0 + 1 + m - i0 = m + 1 by omega, List.getElem?_cons_succ]
        · rw [if_neg hc, if_neg (by omega)]

def keepB (bef : List Nat) (i msk : Nat) (es : List En) (j : Nat) : Prop :=
  (msk.testBit j = true ∧ findE j es = none) ∨ (msk.testBit j = false ∧ (i = j ∨ ∃ m, bef[j]? = some m ∧ m.testBit i = true))

theorem frOf_look (bef : List Nat) (i msk : Nat) (es : List En) (fr : Fr) (t : Nat) : ∀ (l : List Oper) (j0 : Nat),
    look (frOf bef i msk es fr l j0) t = .junk ∨
    (∃ q o e, l[q]? = some o ∧ o.dst = some t ∧ msk.testBit (j0 + q) = true ∧ findE (j0 + q) es = some e ∧ look (frOf bef i msk es fr l j0) t = e.se) ∨
    (look (frOf bef i msk es fr l j0) t = look fr t ∧ ∀ q o, l[q]? = some o → o.dst = some t → keepB bef i msk es (j0 + q)) := by
  intro l
  induction l with
  | nil => intro j0; exact .inr (.inr ⟨rfl, fun q o h => by simp at h⟩)
  | cons o r ih =>
    intro j0
    have ih' := ih (j0 + 1)
    -- what the rest gives, where this one is no word on t
    have pass : ∀ X : Fr, look X t = look (frOf bef i msk es fr r (j0 + 1)) t → (o.dst = some t → keepB bef i msk es j0) →
        look X t = .junk ∨ (∃ q o' e, (o :: r)[q]? = some o' ∧ o'.dst = some t ∧ msk.testBit (j0 + q) = true ∧ findE (j0 + q) es = some e ∧ look X t = e.se) ∨
        (look X t = look fr t ∧ ∀ q o', (o :: r)[q]? = some o' → o'.dst = some t → keepB bef i msk es (j0 + q)) := by
      intro X hX hk
      rw [hX]
      rcases ih' with h | ⟨q, o', e, h1, h2, h3, h4, h5⟩ | ⟨h1, h2⟩
      · exact .inl h
      · exact .inr (.inl ⟨q + 1, o', e, by simpa using h1, h2, by rw [show j0 + (q + 1) = j0 + 1 + q by omega]; exact h3, by rw [show j0 + (q + 1) = j0 + 1 + q by omega]; exact h4, h5⟩)
      · refine .inr (.inr ⟨h1, fun q o' hq ho => ?_⟩)
        cases q with
        | zero =>
          simp only [List.getElem?_cons_zero, Option.some.injEq] at hq
          subst hq
          exact hk ho
        | succ q =>
          rw [show j0 + (q + 1) = j0 + 1 + q by omega]
          exact h2 q o' (by simpa using hq) ho
    simp only [frOf]
    cases hd : o.dst with
    | none => exact pass _ rfl (fun h => by rw [hd] at h; simp at h)
    | some d =>
      simp only [cond_eq_ite]
      by_cases hb : msk.testBit j0 = true
      · rw [if_pos hb]
        cases hf : findE j0 es with
        | none => exact pass _ rfl (fun _ => .inl ⟨hb, hf⟩)
        | some e =>
          simp only [look_cons]
          by_cases ht : t = d
          · subst ht
            exact .inr (.inl ⟨0, o, e, by simp, hd, by simpa using hb, by simpa using hf, by simp⟩)
          · have := pass ((d, e.se) :: frOf bef i msk es fr r (j0 + 1)) (by rw [look_cons, if_neg ht]) (fun h => by rw [hd] at h; exact absurd (Option.some.inj h).symm ht)
            simpa only [look_cons] using this
      · rw [if_neg hb]
        have hb' : msk.testBit j0 = false := by simpa using hb
        by_cases hi : Nat.beq i j0 = true
        · rw [if_pos hi]
          exact pass _ rfl (fun _ => .inr ⟨hb', .inl (Nat.eq_of_beq_eq_true hi)⟩)
        · rw [if_neg hi]
          have junk : ∀ (X : Fr), X = (d, SE.junk) :: frOf bef i msk es fr r (j0 + 1) →
              look X t = .junk ∨ (∃ q o' e, (o :: r)[q]? = some o' ∧ o'.dst = some t ∧ msk.testBit (j0 + q) = true ∧ findE (j0 + q) es = some e ∧ look X t = e.se) ∨
              (look X t = look fr t ∧ ∀ q o', (o :: r)[q]? = some o' → o'.dst = some t → keepB bef i msk es (j0 + q)) := by
            intro X hX
            subst hX
            by_cases ht : t = d
            · exact .inl (by rw [look_cons, if_pos ht])
            · exact pass _ (by rw [look_cons, if_neg ht]) (fun h => by rw [hd] at h; exact absurd (Option.some.inj h).symm ht)
          cases hn : nth bef j0 with
          | none => exact junk _ rfl
          | some m =>
            simp only []
            by_cases hm : m.testBit i = true
            · rw [if_pos hm]
              exact pass _ rfl (fun _ => .inr ⟨hb', .inr ⟨m, by rw [← nth_eq]; exact hn, hm⟩⟩)
            · rw [if_neg hm]
              exact junk _ rfl

theorem frOf_congr (bef : List Nat) (i msk : Nat) (es es' : List En) (fr : Fr) (h : ∀ j, msk.testBit j = true → findE j es = findE j es') : ∀ (l : List Oper) (j0 : Nat),
    frOf bef i msk es fr l j0 = frOf bef i msk es' fr l j0
  | [], _ => rfl
  | o :: r, j0 => by
    simp only [frOf, frOf_congr bef i msk es es' fr h r (j0 + 1)]
    cases o.dst with
    | none => rfl
    | some d =>
      simp only [cond_eq_ite]
      by_cases hb : msk.testBit j0 = true
      · rw [if_pos hb, if_pos hb, h j0 hb]
      · rw [if_neg hb, if_neg hb]

theorem curL_congr {p p' : Nat → Bool} : ∀ (es es' : List En) (L : List HE), es.length = es'.length →
    (∀ (q : Nat) (e e' : En), es[q]? = some e → es'[q]? = some e' → p e.i = p' e'.i ∧ (p e.i = true → e = e')) → curL p es L = curL p' es' L
  | [], [], _, _, _ => rfl
  | [], _ :: _, _, h, _ => by simp at h
  | _ :: _, [], _, h, _ => by simp at h
  | e :: r, e' :: r', L, hl, h => by
    obtain ⟨h1, h2⟩ := h 0 e e' (by simp) (by simp)
    simp only [curL, cond_eq_ite]
    by_cases hb : p e.i = true
    · rw [if_pos hb, if_pos (h1 ▸ hb), h2 hb]
      exact curL_congr r r' _ (by simpa using hl) (fun q a b ha hb => h (q + 1) a b (by simpa using ha) (by simpa using hb))
    · rw [if_neg hb, if_neg (h1 ▸ hb)]
      exact curL_congr r r' _ (by simpa using hl) (fun q a b ha hb => h (q + 1) a b (by simpa using ha) (by simpa using hb))

theorem memN_iff {d : Nat} {l : List Nat} : memN d l = true ↔ d ∈ l := by
  induction l with
  | nil => simp [memN]
  | cons a r ih => simp [memN, ih]

/-- No two that look at one place, one of which puts something there, in no order. -/
theorem okPair_iff {msk : Nat} {ft : List Nat} {wr : Option (Nat × HE)} {es : List En} : okPair msk ft wr es = true ↔
    ∀ e ∈ es, msk.testBit e.i = false → (∀ pos h, e.wr = some (pos, h) → pos ∉ ft) ∧ (∀ pos h, wr = some (pos, h) → pos ∉ e.ft) := by
  induction es with
  | nil => simp [okPair]
  | cons e r ih =>
    simp only [okPair, Bool.and_eq_true, ih, List.forall_mem_cons, Bool.or_eq_true, Bool.not_eq_true']
    refine and_congr_left fun _ => ?_
    obtain ⟨ei, d, se, ft', w'⟩ := e
    simp only
    cases hb : msk.testBit ei with
    | true => simp
    | false =>
      cases w' with
      | none =>
        cases wr with
        | none => simp
        | some x => obtain ⟨p, h⟩ := x; simp [← memN_iff]
      | some y =>
        obtain ⟨p', h'⟩ := y
        cases wr with
        | none => simp [← memN_iff]
        | some x => obtain ⟨p, h⟩ := x; simp [← memN_iff]

/-! ### the phase -/
/-- Hints and place by form alone. -/
def stat : List Oper → List Hint → Nat → Nat → List Hint × Nat
  | _, hs, pos, 0 => (hs, pos)
  | [], hs, pos, _ => (hs, pos)
  | o :: r, hs, pos, q + 1 => stat r (hs.drop (hintsOf hs o.op)) (bif isNew hs o.op then pos + 1 else pos) q

section
variable (P) (Z) (n : Nat) (l : List Oper) (bef : List Nat) (fr : Fr) (H : List HE) (c i0 : Nat) (hs0 : List Hint) (pos0 : Nat)

/-- How many operations there are up to one that stands alone. -/
def plen : Nat → List Oper → List Nat → List Hint → Nat
  | 0, _, _, _ => 0
  | m + 1, o :: r, _ :: b, hs => bif heavy hs o.op then 0 else plen m r b (hs.drop (hintsOf hs o.op)) + 1
  | _ + 1, _, _, _ => 0

structure PhOk (ν : Nat → Nat × Nat) (N : Nat) (ent : List En) (obs : List Ob) : Prop where
  len : ent.length = N
  ev : ∀ q, q < N → ∃ o msk e ob, l[i0 + q]? = some o ∧ bef[i0 + q]? = some msk ∧ heavy (stat (l.drop i0) hs0 pos0 q).1 o.op = false ∧
    evE P Z (ν (c + q)) n l bef fr H c o msk (i0 + q) (stat (l.drop i0) hs0 pos0 q).1 (stat (l.drop i0) hs0 pos0 q).2 (ent.take q) = some (e, ob) ∧ ent[q]? = some e ∧ (∀ x ∈ ob, x ∈ obs) ∧ okPair msk e.ft e.wr (ent.take q) = true
end

theorem drop_cons {α : Type} {l : List α} {i : Nat} {a : α} (h : l[i]? = some a) : l.drop i = a :: l.drop (i + 1) := by
  have hi : i < l.length := by
    rcases Nat.lt_or_ge i l.length with h' | h'
    · exact h'
    · simp [List.getElem?_eq_none h'] at h
  rw [List.drop_eq_getElem_cons hi]
  congr 1
  rw [List.getElem?_eq_getElem hi] at h
  exact Option.some.inj h

theorem phase_spec {n : Nat} {l : List Oper} {bef : List Nat} {fr : Fr} {H : List HE} {c : Nat} {ν : Nat → Nat × Nat} : ∀ (m i k : Nat) (hs : List Hint) (pos : Nat) (es es' : List En) (hs' : List Hint) (ob ob' : List Ob),
    phase P Z ν n l bef fr H c m i hs pos k es ob = some (es', hs', ob') →
    ∃ ent, es' = es ++ ent ∧ ent.length = plen m (l.drop i) (bef.drop i) hs ∧ hs' = (stat (l.drop i) hs pos ent.length).1 ∧ (∀ x ∈ ob, x ∈ ob') ∧
      ∀ q, q < ent.length → ∃ o msk e obq, l[i + q]? = some o ∧ bef[i + q]? = some msk ∧ heavy (stat (l.drop i) hs pos q).1 o.op = false ∧
        evE P Z (ν (c + (k + q))) n l bef fr H c o msk (i + q) (stat (l.drop i) hs pos q).1 (stat (l.drop i) hs pos q).2 (es ++ ent.take q) = some (e, obq) ∧ ent[q]? = some e ∧ (∀ x ∈ obq, x ∈ ob') ∧ okPair msk e.ft e.wr (es ++ ent.take q) = true := by
  intro m
  induction m with
  | zero =>
    intro i k hs pos es es' hs' ob ob' h
    simp only [phase, Option.some.injEq, Prod.mk.injEq] at h
    obtain ⟨rfl, rfl, rfl⟩ := h
    exact ⟨[], by simp, by simp [plen], by simp [stat], fun x hx => hx, fun q hq => by simp at hq⟩
  | succ m ih =>
    intro i k hs pos es es' hs' ob ob' h
    simp only [phase] at h
    have stop : (∀ ent : List En, ent = [] → es' = es → hs' = hs → ob' = ob → plen (m + 1) (l.drop i) (bef.drop i) hs = 0 →
        ∃ ent, es' = es ++ ent ∧ ent.length = plen (m + 1) (l.drop i) (bef.drop i) hs ∧ hs' = (stat (l.drop i) hs pos ent.length).1 ∧ (∀ x ∈ ob, x ∈ ob') ∧
      ∀ q, q < ent.length → ∃ o msk e obq, l[i + q]? = some o ∧ bef[i + q]? = some msk ∧ heavy (stat (l.drop i) hs pos q).1 o.op = false ∧
        evE P Z (ν (c + (k + q))) n l bef fr H c o msk (i + q) (stat (l.drop i) hs pos q).1 (stat (l.drop i) hs pos q).2 (es ++ ent.take q) = some (e, obq) ∧ ent[q]? = some e ∧ (∀ x ∈ obq, x ∈ ob') ∧ okPair msk e.ft e.wr (es ++ ent.take q) = true) := by
      intro ent _ h1 h2 h3 h4
      subst h1 h2 h3
      exact ⟨[], by simp, by simp [h4], by simp [stat], fun x hx => hx, fun q hq => by simp at hq⟩
    cases h1 : nth l i with
    | none =>
      simp only [h1, Option.some.injEq, Prod.mk.injEq] at h
      rw [nth_eq] at h1
      have : l.drop i = [] := List.drop_eq_nil_of_le (List.getElem?_eq_none_iff.1 h1)
      exact stop [] rfl h.1.symm h.2.1.symm h.2.2.symm (by rw [this]; rfl)
    | some o =>
      cases h2 : nth bef i with
      | none =>
        simp only [h1, h2, Option.some.injEq, Prod.mk.injEq] at h
        rw [nth_eq] at h1 h2
        have : bef.drop i = [] := List.drop_eq_nil_of_le (List.getElem?_eq_none_iff.1 h2)
        exact stop [] rfl h.1.symm h.2.1.symm h.2.2.symm (by rw [this, drop_cons h1]; rfl)
      | some msk =>
        simp only [h1, h2, cond_eq_ite] at h
        rw [nth_eq] at h1 h2
        have d1 := drop_cons h1
        have d2 := drop_cons h2
        by_cases hv : heavy hs o.op = true
        · rw [if_pos hv] at h
          simp only [Option.some.injEq, Prod.mk.injEq] at h
          exact stop [] rfl h.1.symm h.2.1.symm h.2.2.symm (by rw [d1, d2]; simp [plen, hv])
        · rw [if_neg hv] at h
          cases h3 : evE P Z (ν (c + k)) n l bef fr H c o msk i hs pos es with
          | none => simp [h3] at h
          | some q0 =>
            obtain ⟨e, obe⟩ := q0
            simp only [h3] at h
            split at h
            · rename_i hpair
              obtain ⟨ent, e1, e2, e3, e4, e5⟩ := ih _ _ _ _ _ _ _ _ _ h
              have hv' : heavy hs o.op = false := by simpa using hv
              refine ⟨e :: ent, by rw [e1]; simp, by rw [d1, d2]; simp [plen, hv', e2], ?_, fun x hx => e4 x (by simp [hx]), ?_⟩
              · rw [e3, d1]
                simp only [List.length_cons, stat, cond_eq_ite]
              · intro q hq
                cases q with
                | zero => exact ⟨o, msk, e, obe, by simpa using h1, by simpa using h2, by simpa [stat] using hv', by simpa [stat] using h3, by simp, fun x hx => e4 x (by simp [hx]), by simpa using hpair⟩
                | succ q =>
                  obtain ⟨o', msk', e', ob'', f1, f2, f3, f4, f5, f6, f7⟩ := e5 q (by simpa using hq)
                  refine ⟨o', msk', e', ob'', by rw [show i + (q + 1) = i + 1 + q by omega]; exact f1, by rw [show i + (q + 1) = i + 1 + q by omega]; exact f2, ?_, ?_, by simpa using f5, f6, by simpa using f7⟩
                  · rw [d1]; simpa only [stat, cond_eq_ite] using f3
                  · rw [d1]
                    simp only [stat, List.take_succ_cons, cond_eq_ite]
                    rw [show i + (q + 1) = i + 1 + q by omega, show k + (q + 1) = k + 1 + q by omega]
                    simpa using f4
            · simp at h

/-- What an operation puts, it puts at a place that it looks at. -/
def WrFt (e : En) : Prop := ∀ pos h, e.wr = some (pos, h) → pos ∈ e.ft

theorem wrOf_ft {b pos : Nat} {ft : List Nat} {o : Op} {r : OR} {new : Bool} (hn : new = isSomeB r.nw) (x : Nat) (h : HE) (hw : wrOf b pos ft o r = some (x, h)) : x ∈ newFt pos new ft := by
  unfold wrOf at hw
  rw [cond_eq_ite] at hw
  split at hw
  · split at hw
    · rename_i p r'
      split at hw
      · simp only [Option.some.injEq, Prod.mk.injEq] at hw
        unfold newFt
        cases new <;> simp [hw.1]
      · simp at hw
    · simp at hw
  · split at hw
    · rename_i ho hr
      simp only [Option.some.injEq, Prod.mk.injEq] at hw
      rw [hn, hr]
      simp [newFt, isSomeB, hw.1]
    · simp at hw

theorem evE_fields {b : Nat × Nat} {n : Nat} {ops : List Oper} {bef : List Nat} {fr : Fr} {H : List HE} {c : Nat} {o : Oper} {msk i : Nat} {hs : List Hint} {pos : Nat} {es : List En} {e : En} {ob : List Ob}
    (h : evE P Z b n ops bef fr H c o msk i hs pos es = some (e, ob)) : e.i = i ∧ e.dst = o.dst ∧ okDst n o.dst = true ∧ WrFt e := by
  unfold evE at h
  split at h
  · split at h
    · simp only [cond_eq_ite] at h
      split at h
      · rename_i hc
        simp only [Bool.and_eq_true, beq_iff_eq] at hc
        simp only [Option.some.injEq, Prod.mk.injEq] at h
        obtain ⟨rfl, rfl⟩ := h
        exact ⟨rfl, rfl, hc.1, fun x h hw => wrOf_ft hc.2.1 x h hw⟩
      · simp at h
    · simp at h
  · simp only [cond_eq_ite] at h
    split at h
    · rename_i hc
      simp only [Bool.and_eq_true, Bool.not_eq_true'] at hc
      simp only [Option.some.injEq, Prod.mk.injEq] at h
      obtain ⟨rfl, rfl⟩ := h
      exact ⟨rfl, rfl, hc.1, fun x h hw => by simp at hw⟩
    · simp at h
  · simp at h

theorem evE_congr {b : Nat × Nat} {n : Nat} {ops : List Oper} {bef : List Nat} {fr : Fr} {H : List HE} {c : Nat} {o : Oper} {msk i : Nat} {hs : List Hint} {pos : Nat} {es es' : List En}
    (h1 : ∀ j, msk.testBit j = true → findE j es = findE j es') (h2 : curL msk.testBit es H = curL msk.testBit es' H) :
    evE P Z b n ops bef fr H c o msk i hs pos es = evE P Z b n ops bef fr H c o msk i hs pos es' := by
  unfold evE
  rw [frOf_congr bef i msk es es' fr h1 ops 0, h2]

/-- What an operation leaves hangs on those ahead of it alone. -/
theorem indep {n : Nat} {l : List Oper} {bef : List Nat} {fr : Fr} {H : List HE} {c i0 : Nat} {hs0 : List Hint} {pos0 N : Nat} {ν ν' : Nat → Nat × Nat} {ent ent' : List En} {obs obs' : List Ob}
    (_hM : Masks l bef) (h1 : PhOk P Z n l bef fr H c i0 hs0 pos0 ν N ent obs) (h2 : PhOk P Z n l bef fr H c i0 hs0 pos0 ν' N ent' obs') (A : Nat → Prop)
    (hc : ∀ q msk q', A q → bef[i0 + q]? = some msk → msk.testBit (i0 + q') = true → A q') (ha : ∀ q, q < N → A q → ν (c + q) = ν' (c + q)) :
    ∀ q, q < N → A q → ent[q]? = ent'[q]? := by
  have fi : ∀ (q : Nat) (e : En), ent[q]? = some e → e.i = i0 + q := fun q e he => by
    have hq : q < N := by
      rcases Nat.lt_or_ge q N with h | h
      · exact h
      · rw [List.getElem?_eq_none (by rw [h1.len]; exact h)] at he; simp at he
    obtain ⟨o, msk, e', ob, _, _, _, f4, f5, _⟩ := h1.ev q hq
    rw [he] at f5
    obtain rfl := Option.some.inj f5
    exact (evE_fields f4).1
  have fi' : ∀ (q : Nat) (e : En), ent'[q]? = some e → e.i = i0 + q := fun q e he => by
    have hq : q < N := by
      rcases Nat.lt_or_ge q N with h | h
      · exact h
      · rw [List.getElem?_eq_none (by rw [h2.len]; exact h)] at he; simp at he
    obtain ⟨o, msk, e', ob, _, _, _, f4, f5, _⟩ := h2.ev q hq
    rw [he] at f5
    obtain rfl := Option.some.inj f5
    exact (evE_fields f4).1
  intro q
  induction q using Nat.strongRecOn with
  | _ q ih =>
    intro hq hA
    obtain ⟨o, msk, e, ob, f1, f2, f3, f4, f5, _⟩ := h1.ev q hq
    obtain ⟨o', msk', e', ob', g1, g2, g3, g4, g5, _⟩ := h2.ev q hq
    rw [f1] at g1
    obtain rfl := Option.some.inj g1
    rw [f2] at g2
    obtain rfl := Option.some.inj g2
    rw [ha q hq hA] at f4
    rw [evE_congr (es' := ent'.take q) ?_ ?_] at f4
    · rw [f4] at g4
      simp only [Option.some.injEq, Prod.mk.injEq] at g4
      rw [f5, g5, g4.1]
    · intro j hj
      rw [findE_take fi, findE_take fi']
      split
      · rename_i hr
        obtain ⟨q', rfl⟩ : ∃ q', j = i0 + q' := ⟨j - i0, by omega⟩
        rw [show i0 + q' - i0 = q' by omega]
        exact ih q' (by omega) (by omega) (hc q msk q' hA f2 hj)
      · rfl
    · refine curL_congr _ _ _ (by simp [h1.len, h2.len]) (fun k a b hka hkb => ?_)
      rw [List.getElem?_take] at hka hkb
      split at hka
      · rename_i hkq
        rw [if_pos hkq] at hkb
        have hkN : k < N := by omega
        obtain ⟨o1, m1, e1, _, p1, _, _, p4, p5, _⟩ := h1.ev k hkN
        obtain ⟨o2, m2, e2, _, r1, _, _, r4, r5, _⟩ := h2.ev k hkN
        rw [hka] at p5
        rw [hkb] at r5
        obtain rfl := Option.some.inj p5
        obtain rfl := Option.some.inj r5
        rw [p1] at r1
        obtain rfl := Option.some.inj r1
        refine ⟨by rw [(evE_fields p4).1, (evE_fields r4).1], fun hb => ?_⟩
        rw [(evE_fields p4).1] at hb
        have := ih k hkq hkN (hc q msk k hA f2 hb)
        rw [hka, hkb] at this
        exact Option.some.inj this
      · simp at hka
end Go.Proofs.Ytbbpmhbeohpmnaa.Rx
