/- The plain law: a bridge that hears a better one over one port. -/
import Derived.Test.YtbbpmhbeohpmnaaSpX
namespace Go.Proofs.Ytbbpmhbeohpmnaa
open Rx Go.RowKit

/-! ### bridges compared -/
theorem numN_eq (m : Mac) : numN m = ((((m.a.toNat * 256 + m.b.toNat) * 256 + m.c.toNat) * 256 + m.d.toNat) * 256 + m.e.toNat) * 256 + m.f.toNat := by
  have := m.a.toNat_lt; have := m.b.toNat_lt; have := m.c.toNat_lt; have := m.d.toNat_lt; have := m.e.toNat_lt; have := m.f.toNat_lt
  simp only [numN, numS]
  omega
theorem lex2_lt (a b : UInt8) (r : Int) : lex2 a b r < 0 ↔ a.toNat < b.toNat ∨ (a.toNat = b.toNat ∧ r < 0) := by
  unfold lex2
  by_cases h : a = b
  · subst h; simp
  · have hn : a.toNat ≠ b.toNat := fun e => h (UInt8.toNat_inj.1 e)
    rw [if_neg h]
    by_cases hl : a < b
    · rw [if_pos hl]
      have := UInt8.lt_iff_toNat_lt.1 hl
      simp; omega
    · rw [if_neg hl]
      have : ¬ a.toNat < b.toNat := fun e => hl (UInt8.lt_iff_toNat_lt.2 e)
      simp; omega
theorem lex2_zero (a b : UInt8) (r : Int) : lex2 a b r = 0 ↔ a = b ∧ r = 0 := by
  unfold lex2
  by_cases h : a = b
  · subst h; simp
  · rw [if_neg h]
    split <;> simp [h]
theorem macCmp_lt (x y : Mac) : macCmp x y < 0 ↔ numN x < numN y := by
  rw [numN_eq, numN_eq]
  have := x.a.toNat_lt; have := x.b.toNat_lt; have := x.c.toNat_lt; have := x.d.toNat_lt; have := x.e.toNat_lt; have := x.f.toNat_lt
  have := y.a.toNat_lt; have := y.b.toNat_lt; have := y.c.toNat_lt; have := y.d.toNat_lt; have := y.e.toNat_lt; have := y.f.toNat_lt
  unfold macCmp
  simp only [lex2_lt]
  omega
theorem macCmp_zero (x y : Mac) : macCmp x y = 0 ↔ x = y := by
  obtain ⟨a, b, c, d, e, f⟩ := x
  obtain ⟨a', b', c', d', e', f'⟩ := y
  simp [macCmp, lex2_zero]
theorem cmpI_lt (a b : Int) : cmpI a b < 0 ↔ a < b := by unfold cmpI; split <;> (try split) <;> omega
theorem cmpI_zero (a b : Int) : cmpI a b = 0 ↔ a = b := by unfold cmpI; split <;> (try split) <;> omega
theorem cmpN_lt (a b : Mac) : cmpN a b < 0 ↔ numN a < numN b := by unfold cmpN; split <;> (try split) <;> omega
theorem idCmp_lt (x y : BId) : idCmp x y < 0 ↔ cmpR x y < 0 := by
  have h1 := cmpI_lt x.prio y.prio
  have h2 := cmpI_zero x.prio y.prio
  have h3 := macCmp_lt x.mac y.mac
  unfold idCmp cmpR
  simp only [orI]
  by_cases h : cmpI x.prio y.prio = 0
  · have hp := h2.1 h
    have hc : (if x.prio < y.prio then (-1 : Int) else if x.prio > y.prio then 1 else cmpN x.mac y.mac) = cmpN x.mac y.mac := by rw [if_neg (by omega), if_neg (by omega)]
    rw [hc, cmpN_lt, ← h3, if_pos h]
    split <;> omega
  · have hp : x.prio ≠ y.prio := fun e => h (h2.2 e)
    rw [if_neg h, h1]
    by_cases hl : x.prio < y.prio
    · rw [if_pos hl]; omega
    · rw [if_neg hl, if_pos (by omega)]; omega
theorem idCmp_zero (x y : BId) : idCmp x y = 0 ↔ x = y := by
  have h2 := cmpI_zero x.prio y.prio
  have h3 := macCmp_zero x.mac y.mac
  obtain ⟨px, mx⟩ := x
  obtain ⟨py, my⟩ := y
  simp only at h2 h3
  unfold idCmp
  simp only [orI, BId.mk.injEq]
  by_cases h : cmpI px py = 0
  · rw [if_pos h]
    by_cases h' : macCmp mx my = 0
    · rw [if_pos h']; simp [h2.1 h, h3.1 h']
    · rw [if_neg h']
      constructor
      · intro e; exact absurd e h'
      · rintro ⟨_, e⟩; exact absurd (h3.2 e) h'
  · rw [if_neg h]
    constructor
    · intro e; exact absurd e h
    · rintro ⟨e, _⟩; exact absurd (h2.2 e) h
/-! ### what is selected -/
def NoHas (L : List (Nat × Port)) : Prop := ∀ q ∈ L, q.2.h.has = false
theorem test_nohas {me : BId} {best : Vec} {h : Heard} (hh : h.has = false) : selTest me best h = false := by
  unfold selTest counts
  rw [hh]
  cases h.up <;> rfl
theorem sel_nohas (me : BId) {L : List (Nat × Port)} (h : NoHas L) : selOf me L = (vecMe me, -1) := by
  have key : ∀ k, k ≤ L.length → selAt me L k = (vecMe me, -1) := by
    intro k
    induction k with
    | zero => intro _; rfl
    | succ k ih =>
      intro hk
      have h1 : k < L.length := by omega
      simp only [selAt, List.getElem?_eq_getElem h1, ih (by omega), selStep, test_nohas (h _ (List.getElem_mem h1)), Bool.false_eq_true, if_false]
  exact key L.length (Nat.le_refl _)
theorem roles_nohas (me : BId) {L : List (Nat × Port)} (h : NoHas L) {k : Nat} {q : Nat × Port} (hq : L[k]? = some q) (hu : q.2.h.up = true) : (rolesH me L)[k]? = some 2 := by
  have hm := h q (List.mem_of_getElem? hq)
  simp only [rolesH, sel_nohas me h, rolesOf, List.getElem?_mapIdx, hq, Option.map_some, Option.some.injEq]
  have hk : ((k : Int) == -1) = false := by simp
  simp only [roleOf, hu, Bool.not_true, Bool.false_eq_true, if_false, hk, desigT, counts, hm, cond_true, Bool.not_false, if_true]

theorem sel_one (me : BId) {L : List (Nat × Port)} {k : Nat} {q : Nat × Port} (hq : L[k]? = some q) (hno : ∀ j q', L[j]? = some q' → j ≠ k → q'.2.h.has = false) : selOf me L = selStep me (vecMe me, -1) k q.2.h := by
  have hk : k < L.length := (List.getElem?_eq_some_iff.1 hq).1
  have key : ∀ i, i ≤ L.length → selAt me L i = if k < i then selStep me (vecMe me, -1) k q.2.h else (vecMe me, -1) := by
    intro i
    induction i with
    | zero => intro _; rfl
    | succ i ih =>
      intro hi
      have h1 : i < L.length := by omega
      by_cases hik : i = k
      · subst hik
        simp only [selAt, hq, ih (by omega), Nat.lt_irrefl, if_false, Nat.lt_succ_self, if_true]
      · have hn := hno i L[i] (by simp [h1]) hik
        have hst : ∀ st, selStep me st i L[i].2.h = st := fun st => by unfold selStep; rw [test_nohas hn]; rfl
        simp only [selAt, List.getElem?_eq_getElem h1, ih (by omega), hst]
        by_cases hlt : k < i
        · rw [if_pos hlt, if_pos (Nat.lt_succ_of_lt hlt)]
        · rw [if_neg hlt, if_neg (by omega)]
  unfold selOf
  rw [key L.length (Nat.le_refl _), if_pos hk]
end Go.Proofs.Ytbbpmhbeohpmnaa
