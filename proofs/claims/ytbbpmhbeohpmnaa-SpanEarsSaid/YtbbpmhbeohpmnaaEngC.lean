/- The executor is sound: whole runs. -/
import Derived.Test.YtbbpmhbeohpmnaaEngB
namespace Go.Proofs.Ytbbpmhbeohpmnaa.Rx
open Go.RowKit
variable {P : Program} {Z : World → Prop}

def Good (P : Program) (R : Ending → World → Prop) : List CFt → (Ending → World → Prop) → Prop
  | [], R' => R' = R
  | cf :: rest, R' => ∃ R'' a, Good P R rest R'' ∧ Agrees cf.cx.n cf.cx.fr a ∧ okDst cf.cx.n cf.dst = true ∧
      ∀ v w', PK P cf.cx.fn R'' cf.cx.body cf.cx.K .normal (a.put cf.dst v) w' → R' (.returned v) w'

def bot (cx : Cxt) : List CFt → Cxt
  | [] => cx
  | cf :: r => bot cf.cx r

theorem bot_cons (cx cx' : Cxt) (cf : CFt) (r : List CFt) : bot cx (cf :: r) = bot cx' (cf :: r) := rfl

section
variable (P) (Z) (R : Ending → World → Prop) (w0 : World) (D : List Nat) (fn0 : Func) (body0 : Code) (n0 : Nat)

def OutOk : Out → Prop
  | .ret x s => ∀ w, WI w0 D s.H w → R (.returned x.v) w
  | .stop K fr s => ∀ a w, Agrees n0 fr a → WI w0 D s.H w → PK P fn0 R body0 K .normal a w

def RunOk (ν : Nat → Nat × Nat) (fuel : Nat) (cx : Cxt) (stk : List CFt) (s : St) : Prop :=
  ∃ obs out, run P Z ν fuel cx stk s [] = some (obs, out) ∧ (∀ o ∈ obs, o.ok P) ∧ OutOk P R w0 D fn0 body0 n0 out

def StOk (ν : Nat → Nat × Nat) (fuel : Nat) : Step → Prop
  | .inl (cx, stk, s) => RunOk P Z R w0 D fn0 body0 n0 ν fuel cx stk s
  | .inr out => OutOk P R w0 D fn0 body0 n0 out

structure Base (cx : Cxt) (stk : List CFt) : Prop where
  fn : (bot cx stk).fn = fn0
  body : (bot cx stk).body = body0
  n : (bot cx stk).n = n0
end

theorem run_acc (ν : Nat → Nat × Nat) : ∀ (fuel : Nat) (cx : Cxt) (stk : List CFt) (s : St) (ob : List Ob), run P Z ν fuel cx stk s ob = (run P Z ν fuel cx stk s []).map fun r => (ob ++ r.1, r.2)
  | 0, _, _, _, _ => rfl
  | n + 1, cx, stk, s, ob => by
    simp only [run]
    cases stepC P Z ν cx stk s with
    | none => rfl
    | some q =>
      obtain ⟨o, st⟩ := q
      cases st with
      | inl c =>
        obtain ⟨cx', stk', s'⟩ := c
        simp only []
        rw [run_acc ν n cx' stk' s' (ob ++ o), run_acc ν n cx' stk' s' ([] ++ o)]
        cases run P Z ν n cx' stk' s' [] with
        | none => rfl
        | some r => simp
      | inr out => simp

variable {R : Ending → World → Prop} {w0 : World} {D : List Nat} {fn0 : Func} {body0 : Code} {n0 : Nat}

theorem step_of_run {ν : Nat → Nat × Nat} {fuel : Nat} {cx : Cxt} {stk : List CFt} {s : St} (h : RunOk P Z R w0 D fn0 body0 n0 ν (fuel + 1) cx stk s) :
    ∃ o st, stepC P Z ν cx stk s = some (o, st) ∧ (∀ x ∈ o, x.ok P) ∧ StOk P Z R w0 D fn0 body0 n0 ν fuel st := by
  obtain ⟨obs, out, h1, h2, h3⟩ := h
  simp only [run] at h1
  cases hs : stepC P Z ν cx stk s with
  | none => simp [hs] at h1
  | some q =>
    obtain ⟨o, st⟩ := q
    rw [hs] at h1
    cases st with
    | inl c =>
      obtain ⟨cx', stk', s'⟩ := c
      simp only [] at h1
      rw [run_acc] at h1
      cases hr : run P Z ν fuel cx' stk' s' [] with
      | none => simp [hr] at h1
      | some r =>
        obtain ⟨ob', out'⟩ := r
        simp only [hr, List.nil_append, Option.map_some, Option.some.injEq, Prod.mk.injEq] at h1
        obtain ⟨rfl, rfl⟩ := h1
        exact ⟨o, _, rfl, fun x hx => h2 x (by simp [hx]), ob', out', hr, fun x hx => h2 x (by simp [hx]), h3⟩
    | inr out' =>
      simp only [List.nil_append, Option.some.injEq, Prod.mk.injEq] at h1
      obtain ⟨rfl, rfl⟩ := h1
      exact ⟨o, _, rfl, h2, h3⟩

/-- What the model must bear out of the program. -/
structure Fit (P : Program) : Prop where
  names : Fine P
  mixed : P.follows .mixedOrders = true

section
variable {fuel : Nat}

def Hyp (P : Program) (Z : World → Prop) (R : Ending → World → Prop) (w0 : World) (D : List Nat) (fn0 : Func) (body0 : Code) (n0 : Nat) (fuel : Nat) : Prop :=
  ∀ (cx : Cxt) (stk : List CFt) (s : St) (ν0 : Nat → Nat × Nat) (a : Act) (w : World) (R' : Ending → World → Prop), Good P R stk R' → Agrees cx.n cx.fr a → WI w0 D s.H w → Base fn0 body0 n0 cx stk →
    (∀ ν, (∀ i, i < s.c → ν i = ν0 i) → RunOk P Z R w0 D fn0 body0 n0 ν fuel cx stk s) → PK P cx.fn R' cx.body cx.K .normal a w

variable {cx : Cxt} {stk : List CFt} {s : St} {ν0 : Nat → Nat × Nat} {a : Act} {w : World} {R' : Ending → World → Prop}

theorem base_same {cx' : Cxt} (hB : Base fn0 body0 n0 cx stk) (h1 : cx'.fn = cx.fn) (h2 : cx'.body = cx.body) (h3 : cx'.n = cx.n) : Base fn0 body0 n0 cx' stk := by
  cases stk with
  | nil => exact ⟨h1.trans hB.fn, h2.trans hB.body, h3.trans hB.n⟩
  | cons cf r => exact ⟨hB.fn, hB.body, hB.n⟩

theorem stop_ok (hR : Good P R stk R') (hA : Agrees cx.n cx.fr a) (hW : WI w0 D s.H w) (hB : Base fn0 body0 n0 cx stk) {hs : List Hint} {o : List Ob} {st : Step} {ν : Nat → Nat × Nat}
    (h : stopAt cx stk { s with hs := hs } = some (o, st)) (hst : StOk P Z R w0 D fn0 body0 n0 ν fuel st) : PK P cx.fn R' cx.body cx.K .normal a w := by
  unfold stopAt at h
  cases stk with
  | cons cf r => simp at h
  | nil =>
    simp only [Option.some.injEq, Prod.mk.injEq] at h
    obtain ⟨_, rfl⟩ := h
    obtain rfl : R' = R := hR
    have h1 : cx.fn = fn0 := hB.fn
    have h2 : cx.body = body0 := hB.body
    have h3 : cx.n = n0 := hB.n
    rw [h1, h2]
    exact hst a w (h3 ▸ hA) hW

theorem finish_ok (hyp : Hyp P Z R w0 D fn0 body0 n0 fuel) (hR : Good P R stk R') (hA : Agrees cx.n cx.fr a) (hW : WI w0 D s.H w) (hB : Base fn0 body0 n0 cx stk)
    (h : ∀ ν, (∀ i, i < s.c → ν i = ν0 i) → ∃ o st, finish P cx stk s = some (o, st) ∧ (∀ x ∈ o, x.ok P) ∧ StOk P Z R w0 D fn0 body0 n0 ν fuel st) :
    a.defers = [] ∧ ∃ v, (results cx.fn a.tmps).run P w = .ok v w ∧ R' (.returned v) w := by
  refine ⟨hA.defers, ?_⟩
  obtain ⟨o, st, h1, h2, h3⟩ := h ν0 (fun _ _ => rfl)
  unfold finish at h1 h
  cases hr : resVals P cx.fr s cx.fn.results.toList with
  | none => simp [hr] at h1
  | some q =>
    obtain ⟨xs, ob⟩ := q
    simp only [hr] at h1 h
    cases stk with
    | nil =>
      simp only [Option.some.injEq, Prod.mk.injEq] at h1
      obtain ⟨rfl, rfl⟩ := h1
      obtain rfl : R' = R := hR
      exact ⟨_, results_ok hA hW.owns hr h2, h3 w hW⟩
    | cons cf r =>
      simp only [cond_eq_ite] at h1 h
      split at h1
      · rename_i hd
        simp only [hd, if_true] at h
        simp only [Option.some.injEq, Prod.mk.injEq] at h1
        obtain ⟨rfl, rfl⟩ := h1
        refine ⟨_, results_ok hA hW.owns hr h2, ?_⟩
        obtain ⟨R'', a', g1, g2, g3, g4⟩ := hR
        refine g4 _ w ?_
        refine hyp { cf.cx with fr := putF cf.cx.fr cf.dst (.val (resTV xs)) } r s ν0 (a'.put cf.dst (resTV xs).v) w R'' g1 (g2.put g3 rfl) hW ?_ ?_
        · have hB' : Base fn0 body0 n0 cf.cx r := ⟨hB.fn, hB.body, hB.n⟩
          exact base_same hB' rfl rfl rfl
        · intro ν hν
          obtain ⟨o', st', e1, _, e3⟩ := h ν hν
          simp only [Option.some.injEq, Prod.mk.injEq] at e1
          obtain ⟨_, rfl⟩ := e1
          exact e3
      · simp at h1

/-- The same with what follows turned alone. -/
theorem go_ok (hyp : Hyp P Z R w0 D fn0 body0 n0 fuel) (hR : Good P R stk R') (hA : Agrees cx.n cx.fr a) (hW : WI w0 D s.H w) (hB : Base fn0 body0 n0 cx stk) {hs : List Hint} {ob : List Ob} {K : List It}
    (h : ∀ ν, (∀ i, i < s.c → ν i = ν0 i) → ∃ o st, goK cx stk { s with hs := hs } ob K = some (o, st) ∧ (∀ x ∈ o, x.ok P) ∧ StOk P Z R w0 D fn0 body0 n0 ν fuel st) :
    PK P cx.fn R' cx.body K .normal a w := by
  refine hyp { cx with K := K } stk { s with hs := hs } ν0 a w R' hR hA hW (base_same hB rfl rfl rfl) (fun ν hν => ?_)
  obtain ⟨o, st, h1, _, h3⟩ := h ν hν
  simp only [goK, Option.some.injEq, Prod.mk.injEq] at h1
  obtain ⟨_, rfl⟩ := h1
  exact h3

theorem enter_ok (hP : Fit P) (hyp : Hyp P Z R w0 D fn0 body0 n0 fuel) (hR : Good P R stk R') (hA : Agrees cx.n cx.fr a) (hW : WI w0 D s.H w) (hB : Base fn0 body0 n0 cx stk) {hs : List Hint} {K' : List It} {o : Oper}
    {G : Option Bool} {Q : Exit → Act → World → Prop}
    (h : ∀ ν, (∀ i, i < s.c → ν i = ν0 i) → ∃ ob st, enter P cx stk { s with hs := hs } K' o G = some (ob, st) ∧ (∀ x ∈ ob, x.ok P) ∧ StOk P Z R w0 D fn0 body0 n0 ν fuel st) :
    o.wp P a w (fun a w => PK P cx.fn R' cx.body K' .normal a w) Q := by
  obtain ⟨ob, st, h1, h2, _⟩ := h ν0 (fun _ _ => rfl)
  unfold enter at h1 h
  split at h1
  · rename_i f args ats hop
    split at h1
    · rename_i fid first cap tg o1 xs o2 e1 e2
      split at h1
      · rename_i fn hfn
        split at h1
        · rename_i body hbody
          simp only [cond_eq_ite] at h1
          split at h1
          · rename_i hd
            simp only [Option.some.injEq, Prod.mk.injEq] at h1
            obtain ⟨rfl, rfl⟩ := h1
            have hG : Gok none := fun g hg => by simp at hg
            have q1 := (opnd_ok hA hG e1 (fun x hx => h2 x (by simp [hx]))).1
            have q2 := (opnds_ok hA hG e2 (fun x hx => h2 x (by simp [hx]))).1
            have hfn' : P.funcs[fid]? = some fn := by rw [← Array.getElem?_toList, ← nth_eq]; exact hfn
            have hys : valsOf (zipT first.toList (flatT tg) ++ xs ++ zipT cap.toList ((flatT tg).drop first.toList.length)) = first.toList ++ valsOf xs ++ cap.toList := by
              rw [valsOf_eq, List.map_append, List.map_append, ← valsOf_eq, ← valsOf_eq, ← valsOf_eq, zipT_v, zipT_v]
            have hrun : (execOp a.eval o).run P w = .ok (.enter fid (first.toList ++ valsOf xs ++ cap.toList).toArray) w := by
              simp only [execOp, hop, resolve, q1, Deferred.ofValue, Sem.run_bind, Sem.run_pure, Result.andThen_ok, invoke]
              rw [run_callFunc hP.names hfn' hbody]
              congr 2
              apply Array.ext'
              simp [← q2]
            unfold Oper.wp
            rw [hrun]
            simp only [Oper.upon]
            refine calls_of_wp hfn' hbody ?_
            have hB' : Base fn0 body0 n0 ⟨fn, body, (zipT first.toList (flatT tg) ++ xs ++ zipT cap.toList ((flatT tg).drop first.toList.length)).length + (fn.ntmps - (zipT first.toList (flatT tg) ++ xs ++ zipT cap.toList ((flatT tg).drop first.toList.length)).length), [.c []], enum 0 (zipT first.toList (flatT tg) ++ xs ++ zipT cap.toList ((flatT tg).drop first.toList.length))⟩ (⟨{ cx with K := K' }, o.dst⟩ :: stk) := by
              have := base_same (cx' := { cx with K := K' }) hB rfl rfl rfl
              exact ⟨this.fn, this.body, this.n⟩
            have key := hyp ⟨fn, body, (zipT first.toList (flatT tg) ++ xs ++ zipT cap.toList ((flatT tg).drop first.toList.length)).length + (fn.ntmps - (zipT first.toList (flatT tg) ++ xs ++ zipT cap.toList ((flatT tg).drop first.toList.length)).length), [.c []], enum 0 (zipT first.toList (flatT tg) ++ xs ++ zipT cap.toList ((flatT tg).drop first.toList.length))⟩ (⟨{ cx with K := K' }, o.dst⟩ :: stk) { s with hs := hs } ν0 { tmps := (valsOf (zipT first.toList (flatT tg) ++ xs ++ zipT cap.toList ((flatT tg).drop first.toList.length))).toArray ++ Array.replicate (fn.ntmps - (valsOf (zipT first.toList (flatT tg) ++ xs ++ zipT cap.toList ((flatT tg).drop first.toList.length))).toArray.size) undef, defers := [] } w
              (fun e w'' => match e with
                | .returned v => PK P cx.fn R' cx.body K' .normal (a.put o.dst v) w''
                | .panicked chain => Q (.panic chain) a w''
                | .outgrown => LetsOut Q) ⟨R', a, hR, hA, hd, fun v w' hh => hh⟩ Agrees.enum hW hB' (fun ν hν => ?_)
            · rw [hys] at key
              have key' : body.wp P (bodyPost P fn (fun e w'' => match e with
                | .returned v => PK P cx.fn R' cx.body K' .normal (a.put o.dst v) w''
                | .panicked chain => Q (.panic chain) a w''
                | .outgrown => LetsOut Q)) { tmps := (first.toList ++ valsOf xs ++ cap.toList).toArray ++ Array.replicate (fn.ntmps - (first.toList ++ valsOf xs ++ cap.toList).toArray.size) undef, defers := [] } w := key
              refine Code.wp_mono (fun e a' w' hq => ?_) key'
              cases e <;> first | exact hq | skip
              all_goals
                obtain ⟨z1, v, z2, z3⟩ := hq
                exact ⟨z1, v, z2, z3⟩
            · obtain ⟨ob', st', g1, _, g3⟩ := h ν hν
              simp only [hop, e1, e2, hfn, hbody, hd, cond_true, Option.some.injEq, Prod.mk.injEq] at g1
              obtain ⟨_, rfl⟩ := g1
              exact g3
          · simp at h1
        · simp at h1
      · simp at h1
    · simp at h1
  · simp at h1

theorem evalGen_guarded {b : Nat × Nat} {fr : Fr} {g : Bool} {o : Oper} {s : St} {pos : Nat} {r : OR} (h : evalGen P b fr (some g) o s pos = some r) : r.H = s.H ∧ r.nw = none := by
  unfold evalGen at h
  repeat' split at h
  all_goals first
    | (simp at h; done)
    | (simp only [Option.some.injEq] at h; subst h; exact ⟨rfl, rfl⟩)
    | (simp_all; done)

theorem evalOp0_guarded {b : Nat × Nat} {fr : Fr} {g : Bool} {o : Oper} {s : St} {pos : Nat} {r : OR} (h : evalOp0 P Z b fr (some g) o s pos = some r) : r.H = s.H ∧ r.nw = none := by
  unfold evalOp0 at h
  split at h
  · unfold evalLoad at h
    repeat' split at h
    all_goals first | (simp at h; done) | (simp only [Option.some.injEq] at h; subst h; exact ⟨rfl, rfl⟩)
  · unfold evalStore at h
    repeat' split at h
    all_goals first | (simp at h; done) | (simp_all; done)
  · unfold evalPick at h
    repeat' split at h
    all_goals first | (simp at h; done) | (simp only [Option.some.injEq] at h; subst h; exact ⟨rfl, rfl⟩)
  · rw [cond_eq_ite] at h
    split at h
    · unfold evalEq at h
      repeat' split at h
      all_goals first | (simp at h; done) | (simp only [Option.some.injEq] at h; subst h; exact ⟨rfl, rfl⟩)
    · rw [cond_eq_ite] at h
      split at h
      · unfold evalPEq at h
        simp only [cond_eq_ite] at h
        repeat' split at h
        all_goals first | (simp at h; done) | (simp only [Option.some.injEq] at h; subst h; exact ⟨rfl, rfl⟩)
      · exact evalGen_guarded h
  · rw [cond_eq_ite] at h
    split at h
    · unfold evalEq at h
      repeat' split at h
      all_goals first | (simp at h; done) | (simp only [Option.some.injEq] at h; subst h; exact ⟨rfl, rfl⟩)
    · rw [cond_eq_ite] at h
      split at h
      · unfold evalPEq at h
        simp only [cond_eq_ite] at h
        repeat' split at h
        all_goals first | (simp at h; done) | (simp only [Option.some.injEq] at h; subst h; exact ⟨rfl, rfl⟩)
      · exact evalGen_guarded h
  · unfold evalIx at h
    repeat' split at h
    all_goals first | (simp at h; done) | (simp only [Option.some.injEq] at h; subst h; exact ⟨rfl, rfl⟩)
  · simp at h
  · unfold evalCall at h
    simp only [cond_eq_ite] at h
    repeat' split at h
    all_goals first | (simp at h; done) | (simp only [Option.some.injEq] at h; subst h; exact ⟨rfl, rfl⟩) | (simp_all; done)
  · exact evalGen_guarded h

theorem evalOp_guarded {b : Nat × Nat} {fr : Fr} {g : Bool} {o : Oper} {s : St} {pos : Nat} {r : OR} (h : evalOp P Z b fr (some g) o s pos = some r) : r.H = s.H ∧ r.nw = none := by
  unfold evalOp at h
  split at h
  · unfold evalRd at h
    split at h
    · rw [cond_eq_ite] at h
      split at h
      · simp at h
      · simp only [Option.some.injEq] at h; subst h; exact ⟨rfl, rfl⟩
    · simp at h
  · split at h
    · simp [evalAs] at h
    · have := evalOp0_guarded h
      exact this

theorem stepOps_ok (hP : Fit P) (hZ : ∀ w, Far w0 D w → Z w) (hyp : Hyp P Z R w0 D fn0 body0 n0 fuel) (hR : Good P R stk R') (hA : Agrees cx.n cx.fr a) (hW : WI w0 D s.H w) (hB : Base fn0 body0 n0 cx stk) {K' : List It} {ops : Array Oper} {o : Oper}
    {Q : Exit → Act → World → Prop}
    (h : ∀ ν, (∀ i, i < s.c → ν i = ν0 i) → ∃ ob st, stepOps P Z (ν s.c) cx stk s ops.toList o K' = some (ob, st) ∧ (∀ x ∈ ob, x.ok P) ∧ StOk P Z R w0 D fn0 body0 n0 ν fuel st) :
    PK P cx.fn R' cx.body cx.K .normal a w ∨
    (if Region.wanted o (yielded ops a.tmps) = true then o.wp P a w (fun a w => PK P cx.fn R' cx.body K' .normal a w) Q ∨ (o.asks P a w ∧ LetsOut Q) else PK P cx.fn R' cx.body K' .normal (a.put o.dst undef) w) := by
  have hgd := guard_ok (ops := ops) (o := o) (hs := s.hs) hA
  unfold stepOps at h
  cases hg : guardOf ops.toList cx.fr o s.hs with
  | bad => obtain ⟨ob, st, h1, _⟩ := h ν0 (fun _ _ => rfl); simp [hg] at h1
  | no =>
    rw [hg] at hgd
    right
    rw [if_neg (by rw [hgd]; simp)]
    simp only [hg, cond_eq_ite] at h
    obtain ⟨ob, st, h1, _⟩ := h ν0 (fun _ _ => rfl)
    split at h1
    · rename_i hd
      simp only [hd, if_true] at h
      refine hyp { cx with K := K', fr := putF cx.fr o.dst nil1 } stk s ν0 _ w R' hR (hA.put (se := nil1) hd rfl) hW (base_same hB rfl rfl rfl) (fun ν hν => ?_)
      obtain ⟨ob', st', g1, _, g3⟩ := h ν hν
      simp only [Option.some.injEq, Prod.mk.injEq] at g1
      obtain ⟨_, rfl⟩ := g1
      exact g3
    · simp at h1
  | again d t v hs =>
    rw [hg] at hgd
    obtain ⟨⟨tg, hl⟩, hhs⟩ := hgd
    left
    simp only [hg] at h
    obtain ⟨ob, st, h1, h2, _⟩ := h ν0 (fun _ _ => rfl)
    simp only [Option.some.injEq, Prod.mk.injEq] at h1
    obtain ⟨rfl, rfl⟩ := h1
    have htv := h2 (.bool t v) (by simp)
    simp only [Ob.ok] at htv
    subst htv
    have hs' := hA.slot d
    rw [hl] at hs'
    refine hyp { cx with fr := (d, .lit t) :: cx.fr } stk { s with hs := hs } ν0 a w R' hR (hA.know hs') hW (base_same hB rfl rfl rfl) (fun ν hν => ?_)
    obtain ⟨ob', st', g1, _, g3⟩ := h ν hν
    simp only [Option.some.injEq, Prod.mk.injEq] at g1
    obtain ⟨_, rfl⟩ := g1
    exact g3
  | yes G =>
    rw [hg] at hgd
    simp only [hg] at h
    unfold stepOp at h
    by_cases hst : stopHere s.hs o.op = true
    · left
      simp only [hst, cond_true] at h
      obtain ⟨ob, st, h1, _, h3⟩ := h ν0 (fun _ _ => rfl)
      exact stop_ok hR hA hW hB h1 h3
    · simp only [hst, cond_false] at h
      right
      -- not wanted
      have skip : G = some false → (PK P cx.fn R' cx.body K' .normal (a.put o.dst undef) w) := by
        intro hGf
        subst hGf
        by_cases hin : inlHere s.hs o.op = true
        · simp only [hin, cond_true] at h
          obtain ⟨ob, st, h1, _⟩ := h ν0 (fun _ _ => rfl)
          unfold enter at h1
          split at h1
          · rename_i heq; simp at heq
          · simp at h1
        · simp only [hin, cond_false] at h
          obtain ⟨ob, st, h1, h2, _⟩ := h ν0 (fun _ _ => rfl)
          cases hev : evalOp P Z (ν0 s.c) cx.fr (some false) o s s.H.length with
          | none => simp [hev] at h1
          | some r =>
            obtain ⟨q1, q2⟩ := evalOp_guarded hev
            simp only [hev, cond_eq_ite] at h1
            split at h1
            · rename_i hd
              have hfit : (seOf (some false) r.x).fits undef := by
                unfold seOf
                cases r.x with
                | none => trivial
                | some x => exact ⟨fun hg => by simp at hg, fun _ => rfl⟩
              refine hyp { cx with K := K', fr := putF cx.fr o.dst (seOf (some false) r.x) } stk ⟨r.H ++ newH (ν0 s.c).1 r.nw, s.c + 1, r.hs⟩ ν0 _ w R' hR (hA.put hd hfit) ?_ (base_same hB rfl rfl rfl) (fun ν hν => ?_)
              · rw [q1, q2]
                simpa [newH] using hW
              · obtain ⟨ob', st', g1, _, g3⟩ := h ν (fun i hi => hν i (by simp only; omega))
                rw [show ν s.c = ν0 s.c from hν s.c (by simp)] at g1
                simp only [hev, hd, cond_true, Option.some.injEq, Prod.mk.injEq] at g1
                obtain ⟨_, rfl⟩ := g1
                exact g3
            · simp at h1
      have take : Gok G → o.wp P a w (fun a w => PK P cx.fn R' cx.body K' .normal a w) Q := by
        intro hG
        by_cases hin : inlHere s.hs o.op = true
        · simp only [hin, cond_true] at h
          exact enter_ok (G := G) (hs := s.hs.tail) hP hyp hR hA hW hB h
        · simp only [hin, cond_false] at h
          let νb : Nat × Nat → Nat → Nat × Nat := fun b i => if i = s.c then b else ν0 i
          have hνb : ∀ b, (∀ i, i < s.c → νb b i = ν0 i) ∧ νb b s.c = b := fun b => ⟨fun i hi => if_neg (by omega), if_pos rfl⟩
          refine evalOp_ok hP.names (hZ w hW.toFar) hA hG hW.owns (pos := s.H.length) (C := fun b r => evalOp P Z b cx.fr G o s s.H.length = some r) ?_ ?_
          · intro b
            obtain ⟨ob, st, h1, h2, _⟩ := h (νb b) (hνb b).1
            rw [(hνb b).2] at h1
            cases hev : evalOp P Z b cx.fr G o s s.H.length with
            | none => simp [hev] at h1
            | some r =>
              simp only [hev, cond_eq_ite] at h1
              split at h1
              · simp only [Option.some.injEq, Prod.mk.injEq] at h1
                exact ⟨r, rfl, by rw [h1.1]; exact h2, rfl⟩
              · simp at h1
          · intro b r w' hr hE
            obtain ⟨ob, st, h1, h2, _⟩ := h (νb b) (hνb b).1
            rw [(hνb b).2] at h1
            simp only [hr, cond_eq_ite] at h1
            split at h1
            · rename_i hd
              have hfit : (seOf G r.x).fits (valR r) := by
                unfold seOf valR
                cases r.x with
                | none => trivial
                | some x =>
                  cases G with
                  | none => rfl
                  | some g => exact ⟨fun _ => rfl, fun hg => by have := hG g rfl; rw [hg] at this; simp at this⟩
              refine hyp { cx with K := K', fr := putF cx.fr o.dst (seOf G r.x) } stk ⟨r.H ++ newH b.1 r.nw, s.c + 1, r.hs⟩ (νb b) _ w' R' hR (hA.put hd hfit) ?_ (base_same hB rfl rfl rfl) (fun ν hν => ?_)
              · exact WI.new (fun x hx => hW.owns.lt x (hE.turn.blocks ▸ hx)) hW.size (hW.turn hE.turn) (fun ho hho => hE.nw ho hho)
              · have e1 : ∀ i, i < s.c → ν i = ν0 i := fun i hi => (hν i (by simp only; omega)).trans ((hνb b).1 i hi)
                have e2 : ν s.c = b := (hν s.c (by simp)).trans (hνb b).2
                obtain ⟨ob', st', g1, _, g3⟩ := h ν e1
                rw [e2] at g1
                simp only [hr, hd, cond_true, Option.some.injEq, Prod.mk.injEq] at g1
                obtain ⟨_, rfl⟩ := g1
                exact g3
            · simp at h1
      cases G with
      | none => rw [if_pos hgd]; exact .inl (take (fun g hg => by simp at hg))
      | some g =>
        cases g with
        | true => rw [if_pos hgd]; exact .inl (take (fun g hg => by simp at hg; exact hg ▸ rfl))
        | false => rw [if_neg (by rw [hgd]; simp)]; exact skip rfl
end
end Go.Proofs.Ytbbpmhbeohpmnaa.Rx
