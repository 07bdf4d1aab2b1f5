/- The plain law: what roles a bridge's ports have hangs on what they have heard alone. -/
import Derived.Test.YtbbpmhbeohpmnaaSpW
namespace Go.Proofs.Ytbbpmhbeohpmnaa
open Rx Go.RowKit

def core (q : Nat × Port) : Heard × Int := (q.2.h, q.2.til)
def hs (L : List (Nat × Port)) : List Heard := L.map fun q => q.2.h
def cores (L : List (Nat × Port)) : List (Heard × Int) := L.map core
def rolesL (L : List (Nat × Port)) : List Int := L.map fun q => numRoles q.2
theorem hs_of_cores {A B : List (Nat × Port)} (h : cores A = cores B) : hs A = hs B := by
  have e : ∀ L, hs L = (cores L).map (·.1) := fun L => by simp [hs, cores, core]
  rw [e, e, h]

theorem sel_hs (me : BId) {A B : List (Nat × Port)} (h : hs A = hs B) : selOf me A = selOf me B := by
  have hl : A.length = B.length := by have := congrArg List.length h; simpa [hs] using this
  have key : ∀ k, selAt me A k = selAt me B k := by
    intro k
    induction k with
    | zero => rfl
    | succ k ih =>
      have e := congrArg (fun l => l[k]?) h
      simp only [hs, List.getElem?_map] at e
      simp only [selAt, ih]
      cases ha : A[k]? with
      | none =>
        cases hb : B[k]? with
        | none => rfl
        | some y => simp [ha, hb] at e
      | some x =>
        cases hb : B[k]? with
        | none => simp [ha, hb] at e
        | some y =>
          simp only [ha, hb, Option.map_some, Option.some.injEq] at e
          simp only [e]
  unfold selOf
  rw [hl]
  exact key B.length

theorem roles_hs (me : BId) {A B : List (Nat × Port)} (h : hs A = hs B) (best : Vec) (root : Int) : rolesOf me best root A = rolesOf me best root B := by
  apply List.ext_getElem?
  intro k
  have e := congrArg (fun l => l[k]?) h
  simp only [hs, List.getElem?_map] at e
  simp only [rolesOf, List.getElem?_mapIdx]
  cases ha : A[k]? with
  | none =>
    cases hb : B[k]? with
    | none => rfl
    | some y => simp [ha, hb] at e
  | some x =>
    cases hb : B[k]? with
    | none => simp [ha, hb] at e
    | some y =>
      simp only [ha, hb, Option.map_some, Option.some.injEq] at e
      simp only [Option.map_some, e]

def rolesH (me : BId) (L : List (Nat × Port)) : List Int := rolesOf me (selOf me L).1 (selOf me L).2 L
theorem rolesH_hs (me : BId) {A B : List (Nat × Port)} (h : hs A = hs B) : rolesH me A = rolesH me B := by
  unfold rolesH
  rw [sel_hs me h]
  exact roles_hs me h _ _

/-! ### reckoned anew -/
theorem rkStep_core (S : Sp) (n j : Nat) (p : Port) (r now : Int) : (rkStep S n j p r now).2.til = p.til ∧ (rkStep S n j p r now).2.role = r ∧ (rkStep S n j p r now).1.best = S.best ∧ (rkStep S n j p r now).1.me = S.me ∧ (r = 1 → (rkStep S n j p r now).2.state = 2) := by
  have e : ∀ S' p', (fwdS S' p' n j now).best = S'.best ∧ (fwdS S' p' n j now).me = S'.me := fun S' p' => by unfold fwdS; split <;> exact ⟨rfl, rfl⟩
  unfold rkStep rk1
  by_cases h1 : r = 1
  · subst h1
    simp only [beq_self_eq_true, if_true]
    split <;> exact ⟨rfl, rfl, (e _ _).1, (e _ _).2, fun _ => rfl⟩
  · have hb : (r == 1) = false := by simpa using h1
    simp only [hb, Bool.false_eq_true, if_false]
    repeat' split
    all_goals first | exact ⟨rfl, rfl, (e _ _).1, (e _ _).2, fun h => absurd h h1⟩ | exact ⟨rfl, rfl, rfl, rfl, fun h => absurd h h1⟩

theorem rk_core (S : Sp) (ps : List (Nat × Port)) (roles : List Int) (now : Int) (h : roles.length = ps.length) : ∀ k, k ≤ ps.length →
    cores (rkAt S ps roles now k).2 = cores (ps.take k) ∧ rolesL (rkAt S ps roles now k).2 = roles.take k ∧ (rkAt S ps roles now k).1.best = S.best ∧ (rkAt S ps roles now k).1.me = S.me ∧
      ∀ q ∈ (rkAt S ps roles now k).2, q.2.role = 1 → q.2.state = 2
  | 0, _ => ⟨rfl, rfl, rfl, rfl, fun q hq => by simp [rkAt] at hq⟩
  | k + 1, hk => by
    obtain ⟨i1, i2, i3, i4, i5⟩ := rk_core S ps roles now h k (by omega)
    have h1 : k < ps.length := by omega
    have h2 : k < roles.length := by omega
    have hc := rkStep_core (rkAt S ps roles now k).1 ps.length k ps[k].2 roles[k] now
    have hh := rkStep_h (rkAt S ps roles now k).1 ps.length k ps[k].2 roles[k] now
    simp only [rkAt, List.getElem?_eq_getElem h1, List.getElem?_eq_getElem h2]
    refine ⟨?_, ?_, hc.2.2.1.trans i3, hc.2.2.2.1.trans i4, ?_⟩
    · simp only [cores, List.map_append, List.map_cons, List.map_nil, List.take_succ_eq_append_getElem h1] at i1 ⊢
      rw [i1]
      simp only [core, hh, hc.1]
    · simp only [rolesL, List.map_append, List.map_cons, List.map_nil, List.take_succ_eq_append_getElem h2] at i2 ⊢
      rw [i2]
      simp only [numRoles, hc.2.1]
    · intro q hq
      rcases List.mem_append.1 hq with hq | hq
      · exact i5 q hq
      · simp only [List.mem_singleton] at hq
        subst hq
        simp only
        intro hr
        exact hc.2.2.2.2 (hc.2.1.symm.trans hr)

theorem reckon_core (S : Sp) (ps : List (Nat × Port)) (now : Int) : cores (reckonOf S ps now).2 = cores ps ∧ rolesL (reckonOf S ps now).2 = rolesH S.me ps ∧ (reckonOf S ps now).1.best = (selOf S.me ps).1 ∧ (reckonOf S ps now).1.me = S.me ∧
    ∀ q ∈ (reckonOf S ps now).2, q.2.role = 1 → q.2.state = 2 := by
  have hl := selR_len S ps
  have := rk_core (withBest S (selB S ps)) ps (selR S ps) now hl ps.length (Nat.le_refl _)
  rw [List.take_length, show (selR S ps).take ps.length = selR S ps by rw [← hl]; exact List.take_length] at this
  exact this

/-! ### a moment passes -/
theorem goes_core (S : Sp) (n j : Nat) (p : Port) (now : Int) : (goesOf S n j p now).2.til = p.til ∧ (goesOf S n j p now).2.role = p.role ∧ (goesOf S n j p now).1.best = S.best ∧ (goesOf S n j p now).1.me = S.me := by
  have e : ∀ S' p', (fwdS S' p' n j now).best = S'.best ∧ (fwdS S' p' n j now).me = S'.me := fun S' p' => by unfold fwdS; split <;> exact ⟨rfl, rfl⟩
  unfold goesOf
  repeat' split
  all_goals first | exact ⟨rfl, rfl, (e _ _).1, (e _ _).2⟩ | exact ⟨rfl, rfl, rfl, rfl⟩
theorem map_set_same {α β : Type} {f : α → β} {L : List α} {k : Nat} {q q' : α} (h : L[k]? = some q) (hf : f q' = f q) : (L.set k q').map f = L.map f := by
  rw [List.map_set]
  exact set_same (by simp [h, hf])
theorem goAt_core (S : Sp) (ps : List (Nat × Port)) (now : Int) : ∀ k, cores (goAt S ps now k).2 = cores ps ∧ rolesL (goAt S ps now k).2 = rolesL ps ∧ (goAt S ps now k).1.best = S.best ∧ (goAt S ps now k).1.me = S.me
  | 0 => ⟨rfl, rfl, rfl, rfl⟩
  | k + 1 => by
    obtain ⟨i1, i2, i3, i4⟩ := goAt_core S ps now k
    simp only [goAt]
    split
    · rename_i q hq
      have hc := goes_core (goAt S ps now k).1 ps.length k q.2 now
      have hh := goes_h (goAt S ps now k).1 ps.length k q.2 now
      refine ⟨?_, ?_, hc.2.2.1.trans i3, hc.2.2.2.trans i4⟩
      · rw [← i1]; exact map_set_same hq (by simp [core, hh, hc.1])
      · rw [← i2]; exact map_set_same hq (by simp [numRoles, hc.2.1])
    · exact ⟨i1, i2, i3, i4⟩
theorem sayAt_core (S : Sp) (ps : List (Nat × Port)) (due : Bool) (now : Int) : ∀ k, cores (sayAt S ps due now k).1 = cores ps ∧ rolesL (sayAt S ps due now k).1 = rolesL ps
  | 0 => ⟨rfl, rfl⟩
  | k + 1 => by
    obtain ⟨i1, i2⟩ := sayAt_core S ps due now k
    simp only [sayAt]
    split
    · rename_i q hq
      split
      · exact ⟨i1, i2⟩
      · exact ⟨by rw [← i1]; exact map_set_same hq rfl, by rw [← i2]; exact map_set_same hq rfl⟩
    · exact ⟨i1, i2⟩

theorem tick_core (S : Sp) (ps : List (Nat × Port)) (now : Int) : cores (tickOf S ps now).ps = cores (ps.map (hasP now)) ∧ rolesL (tickOf S ps now).ps = rolesH S.me (ps.map (hasP now)) ∧
    (tickOf S ps now).S.best = (selOf S.me (ps.map (hasP now))).1 ∧ (tickOf S ps now).S.me = S.me := by
  obtain ⟨r1, r2, r3, r4, _⟩ := reckon_core S (ps.map (hasP now)) now
  have g := goAt_core (reckonOf S (ps.map (hasP now)) now).1 (reckonOf S (ps.map (hasP now)) now).2 now ps.length
  have s := sayAt_core (lastS (goAt (reckonOf S (ps.map (hasP now)) now).1 (reckonOf S (ps.map (hasP now)) now).2 now ps.length).1 now) (goAt (reckonOf S (ps.map (hasP now)) now).1 (reckonOf S (ps.map (hasP now)) now).2 now ps.length).2
    (dueB (goAt (reckonOf S (ps.map (hasP now)) now).1 (reckonOf S (ps.map (hasP now)) now).2 now ps.length).1 now) now ps.length
  have l : ∀ S', (lastS S' now).best = S'.best ∧ (lastS S' now).me = S'.me := fun S' => by unfold lastS; split <;> exact ⟨rfl, rfl⟩
  simp only [tickOf]
  exact ⟨s.1.trans (g.1.trans r1), s.2.trans (g.2.1.trans r2), (l _).1.trans (g.2.2.1.trans r3), (l _).2.trans (g.2.2.2.trans r4)⟩
end Go.Proofs.Ytbbpmhbeohpmnaa
