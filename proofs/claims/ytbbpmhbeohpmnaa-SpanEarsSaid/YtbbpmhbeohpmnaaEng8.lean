/- The executor is sound: a region that draws its order. -/
import Derived.Test.YtbbpmhbeohpmnaaEng7
namespace Go.Proofs.Ytbbpmhbeohpmnaa.Rx
open Go.RowKit
variable {P : Program} {Z : World → Prop}

/-! ### what comes ahead of what -/
theorem nthD_eq : ∀ (l : List Nat) (i : Nat), nthD l i = (l[i]?).getD 0
  | [], i => by simp [nthD]
  | a :: l, 0 => by simp [nthD]
  | a :: l, i + 1 => by simp [nthD, nthD_eq l i]

theorem maskOf_bit (acc : List Nat) : ∀ (es : List Edge) (j : Nat), (maskOf acc es).testBit j = true ↔ ∃ e ∈ es, Region.binds .any e = true ∧ (e.on = j ∨ (nthD acc e.on).testBit j = true)
  | [], j => by simp [maskOf]
  | e :: r, j => by
    simp only [maskOf, cond_eq_ite]
    have ih := maskOf_bit acc r j
    by_cases hb : Region.binds .any e = true
    · rw [if_pos hb]
      simp only [Nat.testBit_or, Bool.or_eq_true, ih, Nat.testBit_two_pow, decide_eq_true_eq, List.mem_cons, exists_eq_or_imp]
      constructor
      · rintro ((h | h) | h)
        · exact .inr h
        · exact .inl ⟨hb, .inl h⟩
        · exact .inl ⟨hb, .inr h⟩
      · rintro (⟨_, h | h⟩ | h)
        · exact .inl (.inr h)
        · exact .inr h
        · exact .inl (.inl h)
    · rw [if_neg hb]
      simp only [ih, List.mem_cons, exists_eq_or_imp]
      constructor
      · exact .inr
      · rintro (⟨h, _⟩ | h)
        · exact absurd h hb
        · exact h

theorem befFrom_get : ∀ (l : List Oper) (acc : List Nat) (k : Nat) (o : Oper), l[k]? = some o →
    ∃ m, (befFrom acc l)[k]? = some m ∧ m = maskOf (acc ++ (befFrom acc l).take k) o.after.toList
  | [], acc, k, o, h => by simp at h
  | a :: l, acc, 0, o, h => by
    simp only [List.getElem?_cons_zero, Option.some.injEq] at h
    subst h
    exact ⟨maskOf acc a.after.toList, by simp [befFrom], by simp⟩
  | a :: l, acc, k + 1, o, h => by
    simp only [List.getElem?_cons_succ] at h
    obtain ⟨m, h1, h2⟩ := befFrom_get l (acc ++ [maskOf acc a.after.toList]) k o h
    refine ⟨m, by simpa [befFrom] using h1, ?_⟩
    rw [h2]
    simp [befFrom]

theorem befFrom_length : ∀ (l : List Oper) (acc : List Nat), (befFrom acc l).length = l.length
  | [], _ => rfl
  | a :: l, acc => by simp [befFrom, befFrom_length l]

theorem edgesDown_iff : ∀ (es : List Edge) (i : Nat), edgesDown i es = true ↔ ∀ e ∈ es, Region.binds .any e = true → e.on < i
  | [], i => by simp [edgesDown]
  | e :: r, i => by
    simp only [edgesDown, Bool.and_eq_true, Bool.or_eq_true, Bool.not_eq_true', Nat.blt_eq, edgesDown_iff r i, List.mem_cons, forall_eq_or_imp]
    constructor
    · rintro ⟨h1, h2⟩
      exact ⟨fun hb => h1.resolve_left (by simp [hb]), h2⟩
    · rintro ⟨h1, h2⟩
      refine ⟨?_, h2⟩
      cases hb : Region.binds .any e
      · exact .inl rfl
      · exact .inr (h1 hb)

theorem downFrom_get : ∀ (l : List Oper) (i k : Nat) (o : Oper), downFrom i l = true → l[k]? = some o → ∀ e ∈ o.after.toList, Region.binds .any e = true → e.on < i + k
  | [], i, k, o, _, h => by simp at h
  | a :: l, i, 0, o, hd, h => by
    simp only [downFrom, Bool.and_eq_true] at hd
    simp only [List.getElem?_cons_zero, Option.some.injEq] at h
    subst h
    exact (edgesDown_iff _ _).1 hd.1
  | a :: l, i, k + 1, o, hd, h => by
    simp only [downFrom, Bool.and_eq_true] at hd
    simp only [List.getElem?_cons_succ] at h
    intro e he hb
    have := downFrom_get l (i + 1) k o hd.2 h e he hb
    omega

/-- The masks of a region whose edges lead down: which operations come ahead. -/
structure Masks (l : List Oper) (bef : List Nat) : Prop where
  length : bef.length = l.length
  down : ∀ k o, l[k]? = some o → ∀ e ∈ o.after.toList, Region.binds .any e = true → e.on < k
  bit : ∀ (k : Nat) (o : Oper) (m j : Nat), l[k]? = some o → bef[k]? = some m → (m.testBit j = true ↔ ∃ e ∈ o.after.toList, Region.binds .any e = true ∧ (e.on = j ∨ ∃ m', bef[e.on]? = some m' ∧ m'.testBit j = true))
  lt : ∀ (k m j : Nat), bef[k]? = some m → m.testBit j = true → j < k

theorem masks_of {l : List Oper} (hd : downFrom 0 l = true) : Masks l (befOf l) := by
  have hlen : (befOf l).length = l.length := befFrom_length l []
  have down : ∀ k o, l[k]? = some o → ∀ e ∈ o.after.toList, Region.binds .any e = true → e.on < k := fun k o h e he hb => by
    have := downFrom_get l 0 k o hd h e he hb
    omega
  have bit : ∀ (k : Nat) (o : Oper) (m j : Nat), l[k]? = some o → (befOf l)[k]? = some m → (m.testBit j = true ↔ ∃ e ∈ o.after.toList, Region.binds .any e = true ∧ (e.on = j ∨ ∃ m', (befOf l)[e.on]? = some m' ∧ m'.testBit j = true)) := by
    intro k o m j hk hm
    obtain ⟨m', h1, h2⟩ := befFrom_get l [] k o hk
    have : m = m' := by
      have h3 : (befOf l)[k]? = some m' := h1
      rw [hm] at h3
      exact Option.some.inj h3
    subst this
    rw [h2, maskOf_bit]
    have hkl : k < (befOf l).length := by
      rcases Nat.lt_or_ge k (befOf l).length with h | h
      · exact h
      · simp [List.getElem?_eq_none h] at hm
    constructor
    · rintro ⟨e, he, hb, h⟩
      refine ⟨e, he, hb, h.imp id fun h => ?_⟩
      have hlt := down k o hk e he hb
      rw [nthD_eq, List.nil_append, List.getElem?_take, if_pos hlt] at h
      cases hg : (befFrom [] l)[e.on]? with
      | none => simp [hg] at h
      | some m' => exact ⟨m', hg, by simpa [hg] using h⟩
    · rintro ⟨e, he, hb, h⟩
      refine ⟨e, he, hb, h.imp id fun ⟨m', hg, h⟩ => ?_⟩
      have hlt := down k o hk e he hb
      have hg' : (befFrom [] l)[e.on]? = some m' := hg
      rw [nthD_eq, List.nil_append, List.getElem?_take, if_pos hlt, hg']
      exact h
  refine ⟨hlen, down, bit, ?_⟩
  intro k
  induction k using Nat.strongRecOn with
  | _ k ih =>
    intro m j hm hj
    have hkl : k < l.length := by
      rcases Nat.lt_or_ge k (befOf l).length with h | h
      · omega
      · simp [List.getElem?_eq_none h] at hm
    obtain ⟨e, he, hb, h⟩ := (bit k l[k] m j (by simp [hkl]) hm).1 hj
    have hlt := down k l[k] (by simp [hkl]) e he hb
    rcases h with rfl | ⟨m', hm', hj'⟩
    · exact hlt
    · have := ih e.on hlt m' j hm' hj'
      omega

/-! ### guards -/
theorem guard_ok {n : Nat} {fr : Fr} {a : Act} {ops : Array Oper} {o : Oper} {hs : List Hint} (hA : Agrees n fr a) :
    match guardOf ops.toList fr o hs with
    | .no => Region.wanted o (yielded ops a.tmps) = false
    | .yes none => Region.wanted o (yielded ops a.tmps) = true
    | .yes (some g) => Region.wanted o (yielded ops a.tmps) = g
    | .again d t v hs' => (∃ tg, look fr d = .val ⟨.bool t, tg⟩) ∧ hs = .g v :: hs'
    | .bad => True := by
  unfold guardOf
  cases hg : o.guard with
  | none => simp [Region.wanted, hg]
  | some jw =>
    obtain ⟨j, want⟩ := jw
    simp only []
    cases h1 : nth ops.toList j with
    | none => trivial
    | some oj =>
      simp only []
      cases h2 : oj.dst with
      | none => trivial
      | some d =>
        simp only []
        have hy : ∀ v, a.tmps[d]? = some v → yielded ops a.tmps j = (match v with | .bool b => some b | _ => none) := by
          intro v hv
          rw [nth_eq, Array.getElem?_toList] at h1
          unfold yielded
          simp only [h1, Option.bind_some, h2, hv]
          cases v <;> rfl
        have hs' := hA.slot d
        cases hl : look fr d with
        | junk => trivial
        | lit t =>
          rw [hl] at hs'
          have := hy _ hs'
          simp only [cond_eq_ite] at this ⊢
          cases t <;> cases want <;> simp [Region.wanted, hg, this]
        | val x =>
          rw [hl] at hs'
          obtain ⟨v, tg⟩ := x
          have := hy _ hs'
          cases v with
          | bool t =>
            have hw : Region.wanted o (yielded ops a.tmps) = (bif want then t else !t) := by
              simp only at this
              cases t <;> cases want <;> simp [Region.wanted, hg, this]
            cases tg with
            | many ts =>
              cases ts with
              | nil =>
                cases t <;> cases want <;> exact hw
              | cons t0 ts =>
                cases hs with
                | nil => exact hw
                | cons h r => cases h <;> first | exact hw | exact ⟨⟨_, hl⟩, rfl⟩
            | no =>
              cases hs with
              | nil => exact hw
              | cons h r => cases h <;> first | exact hw | exact ⟨⟨_, hl⟩, rfl⟩
            | loc p1 p2 p3 =>
              cases hs with
              | nil => exact hw
              | cons h r => cases h <;> first | exact hw | exact ⟨⟨_, hl⟩, rfl⟩
          | tuple vs =>
            show Region.wanted o (yielded ops a.tmps) = false
            simp only at this
            simp [Region.wanted, hg, this]
          | _ => trivial
        | spec g x =>
          rw [hl] at hs'
          obtain ⟨v, tg⟩ := x
          cases v with
          | bool t =>
            show Region.wanted o (yielded ops a.tmps) = (g && (bif want then t else !t))
            cases g with
            | true =>
              have := hy _ (hs'.1 rfl)
              simp only at this
              cases t <;> cases want <;> simp [Region.wanted, hg, this]
            | false =>
              have := hy _ (hs'.2 rfl)
              simp only [undef] at this
              simp [Region.wanted, hg, this]
          | _ => trivial
end Go.Proofs.Ytbbpmhbeohpmnaa.Rx
