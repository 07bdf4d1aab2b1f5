/- The plain law of SpanEars. -/
import Derived.Test.YtbbpmhbeohpmnaaSpY
namespace Go.Proofs.Ytbbpmhbeohpmnaa
open Rx Go.RowKit

def earB (o : BId) : Bpdu := ⟨2, 12, o, 0, o, 1, 0, 20, 2, 15⟩
def upH (j : Nat) (c : Int) (u : Bool) : Heard := ⟨wr ((j : Int) + 1), c, u, false, vec0⟩

theorem hs_get (L : List (Nat × Port)) (j : Nat) : (hs L)[j]? = (L[j]?).map fun q => q.2.h := by simp [hs]
theorem hs_set (L : List (Nat × Port)) (k : Nat) (q : Nat × Port) : hs (L.set k q) = (hs L).set k q.2.h := by simp [hs, List.map_set]
theorem reckon_hs (S : Sp) (ps : List (Nat × Port)) (now : Int) : hs (reckonOf S ps now).2 = hs ps := reckon_h S ps now

theorem up_hs (S : Sp) (L : List (Nat × Port)) (k : Nat) (now : Int) : (upOf S L k true false now).1.me = S.me ∧ ∀ j h, (hs L)[j]? = some h → (hs (upOf S L k true false now).2)[j]? = some (if j = k then { h with up := true, has := false } else h) := by
  unfold upOf
  split
  · rename_i q hq
    refine ⟨(reckon_core _ _ _).2.2.2.1, fun j h hj => ?_⟩
    rw [reckon_hs, hs_set, List.getElem?_set]
    by_cases e : k = j
    · subst e
      rw [if_pos rfl, if_pos rfl]
      rw [hs_get, hq] at hj
      simp only [Option.map_some, Option.some.injEq] at hj
      have hlt := (List.getElem?_eq_some_iff.1 hq).1
      rw [if_pos (by simpa [hs] using hlt), ← hj]
      rfl
    · rw [if_neg e, if_neg (fun h => e h.symm)]
      exact hj
  · rename_i hq
    refine ⟨rfl, fun j h hj => ?_⟩
    rw [if_neg]
    · exact hj
    · rintro rfl
      rw [hs_get, hq] at hj
      simp at hj

theorem made_hs (me : BId) (cs : List Int) (ξ : Xi) : ∀ k, (madeAt (newS me cs.length ξ) (newPs cs ξ) k).1.me = me ∧ ∀ (j : Nat) (c : Int), cs[j]? = some c → (hs (madeAt (newS me cs.length ξ) (newPs cs ξ) k).2)[j]? = some (upH j c (decide (j < k)))
  | 0 => by
    refine ⟨rfl, fun j c hc => ?_⟩
    have hj := (List.getElem?_eq_some_iff.1 hc).1
    have hs0 : (newPs cs ξ).map (·.2) = portsN cs cs.length := tagL_snd _ _
    have e : hs (newPs cs ξ) = ((newPs cs ξ).map (·.2)).map fun p => p.h := by simp [hs]
    show (hs (newPs cs ξ))[j]? = _
    rw [e, hs0]
    have hcj := (List.getElem?_eq_some_iff.1 hc).2
    simp [portsN, hj, port0, upH, hcj]
  | k + 1 => by
    obtain ⟨i1, i2⟩ := made_hs me cs ξ k
    have hu := up_hs (madeAt (newS me cs.length ξ) (newPs cs ξ) k).1 (madeAt (newS me cs.length ξ) (newPs cs ξ) k).2 k 0
    refine ⟨hu.1.trans i1, fun j c hc => ?_⟩
    have := hu.2 j _ (i2 j c hc)
    show (hs (upOf _ _ k true false 0).2)[j]? = _
    rw [this]
    by_cases e : j = k
    · subst e; rw [if_pos rfl]; simp [upH]
    · rw [if_neg e]
      have : decide (j < k) = decide (j < k + 1) := by simp; omega
      rw [this]

structure Made (me : BId) (cs : List Int) (S : Sp) (L : List (Nat × Port)) : Prop where
  me : S.me = me
  len : L.length = cs.length
  at_ : ∀ (j : Nat) (c : Int), cs[j]? = some c → (hs L)[j]? = some (upH j c true)

theorem madeOf_made (me : BId) (cs : List Int) (ξ : Xi) (h0 : 0 < cs.length) (hn : cs.length ≤ 70) (hok : newOk me cs = true) : Made me cs (madeOf me cs ξ).1 (madeOf me cs ξ).2 := by
  have h1 := made_hs me cs ξ cs.length
  refine ⟨h1.1, ?_, fun j c hc => ?_⟩
  · have := (made_same (newS me cs.length ξ) (newPs cs ξ) (newPs_fair me cs ξ h0 hn hok) cs.length).2.1
    rw [newPs, tagL_len, portsN_len] at this
    exact this
  · have := h1.2 j c hc
    have hj := (List.getElem?_eq_some_iff.1 hc).1
    rw [show decide (j < cs.length) = true by simpa using hj] at this
    exact this

theorem Made.noHas {me : BId} {cs : List Int} {S : Sp} {L : List (Nat × Port)} (h : Made me cs S L) {j : Nat} {q : Nat × Port} (hq : L[j]? = some q) : q.2.h.has = false ∧ q.2.h.up = true := by
  have hj := (List.getElem?_eq_some_iff.1 hq).1
  have hc : cs[j]? = some (cs[j]'(by rw [← h.len]; exact hj)) := by simp [h.len ▸ hj]
  have := h.at_ j _ hc
  rw [hs_get, hq] at this
  simp only [Option.map_some, Option.some.injEq] at this
  rw [this]
  exact ⟨rfl, rfl⟩

/-! ### the bridge hears another one -/
def earH (k : Nat) (c : Int) (o : BId) : Heard := ⟨wr ((k : Int) + 1), c, true, true, ⟨o, 0, o, 1, 0⟩⟩
def earX (L : List (Nat × Port)) (k : Nat) (o : BId) : List (Nat × Port) := match L[k]? with
  | some q => L.set k (q.1, hearsP { q.2 with edge := false } (earB o) 0)
  | none => L

theorem takeL_ear (S : Sp) (L : List (Nat × Port)) (k : Nat) (o : BId) {q : Nat × Port} (hq : L[k]? = some q) (hh : q.2.h.has = false) : takeL S L k (earB o) 0 = reckonOf S (earX L k o) 0 := by
  obtain ⟨hk, hqe⟩ := List.getElem?_eq_some_iff.1 hq
  have hset : ∀ x, L.take k ++ x :: L.drop (k + 1) = L.set k x := fun x => by
    rw [List.set_eq_take_append_cons_drop, if_pos hk]
  have hX : earX L k o = L.set k (q.1, hearsP { q.2 with edge := false } (earB o) 0) := by simp only [earX, hq]
  have hhe : hears { q.2 with edge := false } (earB o) 0 = hearsP { q.2 with edge := false } (earB o) 0 := by
    have : hearsB { q.2 with edge := false } (vecHeard (earB o)) = true := by simp only [hearsB, hh]; rfl
    rw [hears, if_pos this]
  simp only [takeL, hq]
  have hdes : desB (flagsOf (earB o)) = true := by kernel_rfl
  have hfl : flagsOf (earB o) = 12 := rfl
  have h2 : hasB 12 2 = false := by kernel_rfl
  have h1 : hasB 12 1 = false := by kernel_rfl
  have hA : tkA 12 true (earB o) 0 ⟨S, L.take k, (q.1, { q.2 with edge := false }), L.drop (k + 1)⟩ = tkOf (reckonOf S (earX L k o) 0).1 (reckonOf S (earX L k o) 0).2 (L.take k).length (q.1, { q.2 with edge := false }) := by
    have ht : cond true (decide ((earB o).age < 20)) false = true := rfl
    rw [tkA, if_pos ht, h2, if_neg (by simp)]
    simp only [hhe]
    rw [hset, ← hX]
  have hB : ∀ n t, tkB n true 12 (earB o) 0 t = t := fun n t => by
    have : agreeT true 12 (earB o) t = false := by simp only [agreeT]; rfl
    rw [tkB, if_neg (by simp [this])]
  have hC : ∀ n t, tkC n 12 0 t = t := fun n t => by rw [tkC, if_neg (by simp [h1])]
  unfold takeOf
  rw [hdes, hfl, hC, hB, hA]
  have hlt : (L.take k).length < (reckonOf S (earX L k o) 0).2.length := by
    rw [reckon_len, hX, List.length_set, List.length_take]; omega
  rw [tkOf_ps _ _ _ _ hlt]
  rfl

theorem earX_hs {me : BId} {cs : List Int} {S : Sp} {L : List (Nat × Port)} (h : Made me cs S L) {k : Nat} {c : Int} (hc : cs[k]? = some c) (o : BId) :
    ∃ q, (earX L k o)[k]? = some q ∧ core q = (earH k c o, wr 6) ∧ ∀ j q', (earX L k o)[j]? = some q' → j ≠ k → q'.2.h.has = false := by
  have hk := (List.getElem?_eq_some_iff.1 hc).1
  have hq : L[k]? = some (L[k]'(by rw [h.len]; exact hk)) := by simp [h.len, hk]
  generalize L[k]'(by rw [h.len]; exact hk) = q at hq
  have hh := h.at_ k c hc
  rw [hs_get, hq] at hh
  simp only [Option.map_some, Option.some.injEq] at hh
  have hX : earX L k o = L.set k (q.1, hearsP { q.2 with edge := false } (earB o) 0) := by simp only [earX, hq]
  rw [hX]
  refine ⟨(q.1, hearsP { q.2 with edge := false } (earB o) 0), by rw [List.getElem?_set]; simp [h.len, hk], ?_, fun j q' hj hne => ?_⟩
  · simp only [core, hearsP, hh, upH, earH]
    rfl
  · rw [List.getElem?_set, if_neg (fun e => hne e.symm)] at hj
    exact (h.noHas hj).1

theorem ear_vec (k : Nat) (c : Int) (o : BId) (h1 : 1 ≤ c) (h2 : c ≤ 200000000) : selV (earH k c o) = ⟨o, c, o, 1, wr ((k : Int) + 1)⟩ := by
  have hc1 : costOk (0 : Int) = true := by simp [costOk]
  have hc2 : costOk c = true := by simp [costOk]; omega
  have e : (earH k c o).v.cost = 0 := rfl
  have e2 : (earH k c o).cost = c := rfl
  simp only [selV, vecAdd, e, e2, hc1, hc2, and_self, if_true]
  rw [if_neg (by omega), Int.zero_add]
  rfl

theorem ear_test (me o : BId) (k : Nat) (c : Int) (h1 : 1 ≤ c) (h2 : c ≤ 200000000) : selTest me (vecMe me) (earH k c o) = decide (cmpR o me < 0) := by
  have hcnt : counts (earH k c o) = true := rfl
  simp only [selTest, ear_vec k c o h1 h2, hcnt, cond_true]
  by_cases he : o = me
  · subst he
    have : idEq o o = true := (idEq_iff o o).2 rfl
    have hz : ¬ cmpR o o < 0 := fun e => by
      have := (idCmp_lt o o).2 e
      rw [(idCmp_zero o o).2 rfl] at this
      omega
    simp [this, hz]
  · have h3 : idEq o me = false := by
      cases hb : idEq o me with
      | false => rfl
      | true => exact absurd ((idEq_iff o me).1 hb) he
    have h4 : idCmp o me ≠ 0 := fun e => he ((idCmp_zero o me).1 e)
    have h5 : vecCmp ⟨o, c, o, 1, wr ((k : Int) + 1)⟩ (vecMe me) = idCmp o me := by
      exact if_neg h4
    simp only [h3, Bool.not_false, cond_true, h5, idCmp_lt]

/-- What the law says of hearing. -/
theorem ear_roles {me : BId} {cs : List Int} {S : Sp} {L : List (Nat × Port)} (h : Made me cs S L) {k : Nat} {c : Int} (hc : cs[k]? = some c) (o : BId) (h1 : 1 ≤ c) (h2 : c ≤ 200000000) :
    ∃ r, (rolesH me (earX L k o))[k]? = some r ∧ (r == 1) = decide (cmpR o me < 0) ∧ (cmpR o me < 0 → selOf me (earX L k o) = (⟨o, c, o, 1, wr ((k : Int) + 1)⟩, (k : Int))) := by
  obtain ⟨q, hq, hcore, hno⟩ := earX_hs h hc o
  have hh : q.2.h = earH k c o := by have := congrArg Prod.fst hcore; exact this
  have hsel := sel_one me hq hno
  rw [hh] at hsel
  unfold selStep at hsel
  rw [ear_test me o k c h1 h2, ear_vec k c o h1 h2] at hsel
  refine ⟨roleOf me (selOf me (earX L k o)).1 (selOf me (earX L k o)).2 k (earH k c o), ?_, ?_, ?_⟩
  · simp only [rolesH, rolesOf, List.getElem?_mapIdx, hq, Option.map_some, hh]
  · by_cases hb : cmpR o me < 0
    · rw [if_pos (by simpa using hb)] at hsel
      rw [hsel]
      have hup : (earH k c o).up = true := rfl
      simp [roleOf, hup, hb]
    · rw [if_neg (by simpa using hb)] at hsel
      rw [hsel]
      have hk : ((k : Int) == -1) = false := by simp
      have hup : (earH k c o).up = true := rfl
      simp only [roleOf, hup, Bool.not_true, Bool.false_eq_true, if_false, hk]
      rw [show decide (cmpR o me < 0) = false by simpa using hb]
      split
      · rfl
      · split <;> rfl
  · intro hb
    rw [if_pos (by simpa using hb)] at hsel
    exact hsel

theorem hasP_core (now : Int) (q : Nat × Port) : core (hasP now q) = ({ q.2.h with has := cond q.2.h.has (decide (now < q.2.til)) false }, q.2.til) := rfl
theorem cores_hasP (now : Int) (L : List (Nat × Port)) : cores (L.map (hasP now)) = (cores L).map fun x => ({ x.1 with has := cond x.1.has (decide (now < x.2)) false }, x.2) := by
  simp only [cores, List.map_map]
  rfl

/-- All that the law asks of the bridge. -/
structure Ears (me o : BId) (c : Int) (k : Nat) (S0 : Sp) (L0 : List (Nat × Port)) (better : Bool) (r : Int) : Prop where
  len : L0.length ≤ 64
  r1 : ((rolesL (takeL S0 L0 k (earB o) 0).2)[k]? = some r)
  rb : (r == 1) = better
  root : better = true → (takeL S0 L0 k (earB o) 0).1.best.root = o ∧ ∀ c', c = c' → (takeL S0 L0 k (earB o) 0).1.best.cost = c'
  state : better = true → ∃ q, (takeL S0 L0 k (earB o) 0).2[k]? = some q ∧ q.2.state = 2
  five : (rolesL (tickOf (takeL S0 L0 k (earB o) 0).1 (takeL S0 L0 k (earB o) 0).2 5).ps)[k]? = some r
  six : (tickOf (tickOf (takeL S0 L0 k (earB o) 0).1 (takeL S0 L0 k (earB o) 0).2 5).S (tickOf (takeL S0 L0 k (earB o) 0).1 (takeL S0 L0 k (earB o) 0).2 5).ps 6).S.best = vecMe me
  sixr : (rolesL (tickOf (tickOf (takeL S0 L0 k (earB o) 0).1 (takeL S0 L0 k (earB o) 0).2 5).S (tickOf (takeL S0 L0 k (earB o) 0).1 (takeL S0 L0 k (earB o) 0).2 5).ps 6).ps)[k]? = some 2

theorem ears_of {me : BId} {cs : List Int} {S : Sp} {L : List (Nat × Port)} (h : Made me cs S L) {k : Nat} {c : Int} (hc : cs[k]? = some c) (o : BId) (h1 : 1 ≤ c) (h2 : c ≤ 200000000) (h64 : L.length ≤ 64) :
    ∃ r, Ears me o c k S L (decide (cmpR o me < 0)) r := by
  have hk := (List.getElem?_eq_some_iff.1 hc).1
  have hq0 : L[k]? = some (L[k]'(by rw [h.len]; exact hk)) := by simp [h.len, hk]
  generalize L[k]'(by rw [h.len]; exact hk) = q0 at hq0
  have hT := takeL_ear S L k o hq0 (h.noHas hq0).1
  obtain ⟨r, hr1, hr2, hr3⟩ := ear_roles h hc o h1 h2
  obtain ⟨qx, hqx, hcx, hnox⟩ := earX_hs h hc o
  obtain ⟨a1, a2, a3, a4, a5⟩ := reckon_core S (earX L k o) 0
  rw [h.me] at a2 a3 a4
  generalize hX : earX L k o = X at *
  generalize hM : reckonOf S X 0 = M at *
  obtain ⟨S1, L1⟩ := M
  simp only at a1 a2 a3 a4 a5
  have hl1 : (rolesL L1)[k]? = some r := by rw [a2]; exact hr1
  -- five
  have c5 : cores (L1.map (hasP 5)) = cores X := by
    rw [cores_hasP, a1]
    apply List.ext_getElem?
    intro j
    simp only [cores, List.map_map, List.getElem?_map]
    cases hj : X[j]? with
    | none => rfl
    | some q' =>
      simp only [Option.map_some, Function.comp, Option.some.injEq]
      by_cases e : j = k
      · subst e
        rw [hqx] at hj
        obtain rfl := Option.some.inj hj
        rw [hcx]
        have : decide ((5 : Int) < wr 6) = true := by kernel_rfl
        rw [this]
        rfl
      · have := hnox j q' hj e
        simp only [core, this, cond_false]
        rw [← this]
  obtain ⟨b1, b2, b3, b4⟩ := tick_core S1 L1 5
  rw [a4] at b2 b3 b4
  rw [c5] at b1
  have hx5 : hs (L1.map (hasP 5)) = hs X := hs_of_cores c5
  have hr5 : (rolesL (tickOf S1 L1 5).ps)[k]? = some r := by rw [b2, rolesH_hs me hx5]; exact hr1
  -- six
  obtain ⟨d1, d2, d3, d4⟩ := tick_core (tickOf S1 L1 5).S (tickOf S1 L1 5).ps 6
  rw [b4] at d2 d3 d4
  have c6 : cores ((tickOf S1 L1 5).ps.map (hasP 6)) = (cores X).map fun x => ({ x.1 with has := cond x.1.has (decide ((6 : Int) < x.2)) false }, x.2) := by rw [cores_hasP, b1]
  have hno6 : NoHas ((tickOf S1 L1 5).ps.map (hasP 6)) := by
    intro q hq
    obtain ⟨j, hj⟩ := List.mem_iff_getElem?.1 hq
    have e := congrArg (fun l => l[j]?) c6
    simp only [cores, List.map_map, List.getElem?_map] at e
    rw [List.getElem?_map] at hj
    cases hy : (tickOf S1 L1 5).ps[j]? with
    | none => rw [hy] at hj; simp at hj
    | some y =>
      rw [hy] at hj e
      simp only [Option.map_some, Option.some.injEq] at hj
      cases hx : X[j]? with
      | none => rw [hx] at e; simp at e
      | some x =>
        rw [hx] at e
        simp only [Option.map_some, Function.comp, Option.some.injEq] at e
        rw [hj] at e
        have e2 : q.2.h.has = cond x.2.h.has (decide ((6 : Int) < x.2.til)) false := by
          have := congrArg (fun z : Heard × Int => z.1.has) e
          exact this
        rw [e2]
        by_cases ejk : j = k
        · subst ejk
          rw [hqx] at hx
          obtain rfl := Option.some.inj hx
          have ht : qx.2.til = wr 6 := congrArg Prod.snd hcx
          have : decide ((6 : Int) < wr 6) = false := by kernel_rfl
          rw [ht, this]
          cases qx.2.h.has <;> rfl
        · rw [hnox j x hx ejk]; rfl
  have hup6 : ∃ q, ((tickOf S1 L1 5).ps.map (hasP 6))[k]? = some q ∧ q.2.h.up = true := by
    have e := congrArg (fun l => l[k]?) c6
    simp only [cores, List.map_map, List.getElem?_map, hqx, Option.map_some] at e
    cases hy : (tickOf S1 L1 5).ps[k]? with
    | none => rw [hy] at e; simp at e
    | some y =>
      rw [hy] at e
      simp only [Option.map_some, Function.comp, Option.some.injEq] at e
      refine ⟨hasP 6 y, by rw [List.getElem?_map, hy]; rfl, ?_⟩
      have e2 : (hasP 6 y).2.h.up = (core qx).1.up := congrArg (fun z : Heard × Int => z.1.up) e
      rw [e2, hcx]
      rfl
  obtain ⟨q6, hq6, hu6⟩ := hup6
  refine ⟨r, h64, by rw [hT]; exact hl1, hr2, ?_, ?_, by rw [hT]; exact hr5, by rw [hT]; rw [d3, sel_nohas me hno6], by rw [hT]; rw [d2]; exact roles_nohas me hno6 hq6 hu6⟩
  · intro hb
    have := hr3 (by simpa using hb)
    rw [hT]
    simp only [a3, this]
    exact ⟨trivial, fun c' e => e⟩
  · intro hb
    rw [hT]
    simp only
    have hq1 : ∃ q, L1[k]? = some q := by
      cases hy : L1[k]? with
      | none => simp [rolesL, hy] at hl1
      | some q => exact ⟨q, rfl⟩
    obtain ⟨q1, hq1⟩ := hq1
    refine ⟨q1, hq1, a5 q1 (List.mem_of_getElem? hq1) ?_⟩
    have : q1.2.role = r := by simpa [rolesL, hq1, numRoles] using hl1
    rw [this]
    have hr := hr2
    rw [hb] at hr
    simpa using hr
end Go.Proofs.Ytbbpmhbeohpmnaa
