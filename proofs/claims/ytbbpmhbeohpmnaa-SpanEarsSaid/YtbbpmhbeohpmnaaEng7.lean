/- The executor is sound: what follows, frames, the world. -/
import Derived.Test.YtbbpmhbeohpmnaaEng6
namespace Go.Proofs.Ytbbpmhbeohpmnaa.Rx
open Go.RowKit
variable {P : Program} {Z : World → Prop}

def opsArr : Code → Array Oper
  | .region _ ops _ => ops
  | _ => #[]

theorem opsArr_toList (c : Code) : (opsArr c).toList = opsOf c := by cases c <;> rfl

def upTo (n i : Nat) : Array Bool := (List.range n).map (fun j => decide (j < i)) |>.toArray

/-- What follows, from what has been laid by. -/
def PK (P : Program) (fn : Func) (R : Ending → World → Prop) (body : Code) : List It → Exit → Act → World → Prop
  | [] => bodyPost P fn R
  | .c p :: K => Exit.then ((sub body p).wp P (PK P fn R body K)) (PK P fn R body K)
  | .ops p i :: K => Exit.then (wpList P (opsArr (sub body p)) (PK P fn R body K) ((opsArr (sub body p)).toList.drop i)) (PK P fn R body K)
  | .any p i :: K => Exit.then (wpAny P .any (opsArr (sub body p)) (PK P fn R body K) ((opsArr (sub body p)).size - i) (upTo (opsArr (sub body p)).size i)) (PK P fn R body K)
  | .blk id :: K => Exit.inBlock id (PK P fn R body K)
  | .lp p n :: K => Exit.then (Code.rounds P (child 0 (sub body p)) (PK P fn R body K) n) (PK P fn R body K)
  | .goal T :: K => Exit.then T (PK P fn R body K)

/-! ### frames -/
def SE.fits (v : Value) : SE → Prop
  | .val x => x.v = v
  | .spec g x => (g = true → x.v = v) ∧ (g = false → v = undef)
  | .lit b => v = .bool b
  | .junk => True

theorem SE.holds_of_fits {a : Act} {i : Nat} {v : Value} {se : SE} (h : a.tmps[i]? = some v) (hf : se.fits v) : se.holds a i := by
  cases se with
  | val x => simp only [SE.fits] at hf; simp only [SE.holds, hf, h]
  | spec g x => exact ⟨fun hg => by rw [hf.1 hg]; exact h, fun hg => by rw [← hf.2 hg]; exact h⟩
  | lit b => simp only [SE.fits] at hf; simp only [SE.holds, h, hf]
  | junk => trivial

theorem SE.holds_congr {a a' : Act} {i : Nat} {se : SE} (h : a'.tmps[i]? = a.tmps[i]?) (hh : se.holds a i) : se.holds a' i := by
  cases se <;> simp only [SE.holds, h] at hh ⊢ <;> exact hh

theorem look_cons (j : Nat) (se : SE) (fr : Fr) (i : Nat) : look ((j, se) :: fr) i = if i = j then se else look fr i := by
  simp only [look, cond_eq_ite, Nat.beq_eq]

theorem Agrees.put {n : Nat} {fr : Fr} {a : Act} {dst : Option Tmp} {se : SE} {v : Value} (hA : Agrees n fr a) (hd : okDst n dst = true) (hf : se.fits v) :
    Agrees n (putF fr dst se) (a.put dst v) := by
  cases dst with
  | none => exact hA
  | some d =>
    simp only [okDst, Nat.blt_eq] at hd
    refine ⟨hA.defers, by simp [Act.put, hA.size], fun i => ?_⟩
    simp only [putF, look_cons, Act.put]
    split
    · rename_i h
      subst h
      exact SE.holds_of_fits (by simp [hA.size, hd]) hf
    · rename_i h
      exact SE.holds_congr (a := a) (by simp [show d ≠ i from fun e => h e.symm]) (hA.slot i)

theorem Agrees.know {n : Nat} {fr : Fr} {a : Act} {d : Tmp} {se : SE} (hA : Agrees n fr a) (h : se.holds a d) : Agrees n ((d, se) :: fr) a := by
  refine ⟨hA.defers, hA.size, fun i => ?_⟩
  rw [look_cons]
  split
  · rename_i e; subst e; exact h
  · exact hA.slot i

theorem enum_look : ∀ (ys : List TV) (k i : Nat), look (enum k ys) i = if k ≤ i then (match ys[i - k]? with | some y => .val y | none => .junk) else .junk
  | [], k, i => by simp [enum, look]
  | y :: r, k, i => by
    simp only [enum, look_cons, enum_look r (k + 1) i]
    by_cases h : i = k
    · subst h; simp
    · rw [if_neg h]
      by_cases h2 : k ≤ i
      · rw [if_pos h2, if_pos (by omega)]
        obtain ⟨m, rfl⟩ : ∃ m, i = k + m + 1 := ⟨i - k - 1, by omega⟩
        rw [show k + m + 1 - (k + 1) = m by omega, show k + m + 1 - k = m + 1 by omega, List.getElem?_cons_succ]
      · rw [if_neg h2, if_neg (by omega)]

theorem Agrees.enum {ys : List TV} {m : Nat} : Agrees (ys.length + (m - ys.length)) (enum 0 ys) { tmps := (valsOf ys).toArray ++ Array.replicate (m - (valsOf ys).toArray.size) undef, defers := [] } := by
  have hl : (valsOf ys).length = ys.length := by simp [valsOf_eq]
  refine ⟨rfl, by simp [hl], fun i => ?_⟩
  rw [enum_look]
  simp only [Nat.zero_le, if_true, Nat.sub_zero]
  cases h : ys[i]? with
  | none => trivial
  | some y =>
    simp only [SE.holds]
    have hi : i < ys.length := by
      rcases Nat.lt_or_ge i ys.length with h' | h'
      · exact h'
      · simp [List.getElem?_eq_none h'] at h
    rw [Array.getElem?_append_left (by simp [hl, hi])]
    simp [valsOf_eq, h]

/-! ### the world -/
structure WI (w0 : World) (D : List Nat) (H : List HE) (w : World) : Prop where
  owns : Owns w H
  os : w.os = w0.os
  tape : w.tape = w0.tape
  output : w.output = w0.output
  size : w0.heap.size ≤ w.heap.size
  far : ∀ b, b < w0.heap.size → b ∉ D → w.heap[b]? = w0.heap[b]?
  near : ∀ b ∈ blocksOf H, b ∈ D ∨ w0.heap.size ≤ b

/-- Far from what was known nothing has turned; what is new is new. -/
structure Far (w0 : World) (D : List Nat) (w : World) : Prop where
  os : w.os = w0.os
  tape : w.tape = w0.tape
  output : w.output = w0.output
  size : w0.heap.size ≤ w.heap.size
  far : ∀ b, b < w0.heap.size → b ∉ D → w.heap[b]? = w0.heap[b]?

theorem WI.toFar {w0 w : World} {D : List Nat} {H : List HE} (h : WI w0 D H w) : Far w0 D w := ⟨h.os, h.tape, h.output, h.size, h.far⟩

theorem WI.turn {w0 w w' : World} {D : List Nat} {H H' : List HE} (h : WI w0 D H w) (t : Turn w w' H H') : WI w0 D H' w' := by
  refine ⟨t.owns, t.os.trans h.os, t.tape.trans h.tape, t.output.trans h.output, Nat.le_trans h.size t.size, fun b hb hd => ?_, fun b hb => h.near b (t.blocks ▸ hb)⟩
  rw [t.far b (Nat.lt_of_lt_of_le hb h.size) (fun hm => by
    rcases h.near b hm with h' | h'
    · exact hd h'
    · omega)]
  exact h.far b hb hd

theorem blocksOf_append : ∀ (H H' : List HE), blocksOf (H ++ H') = blocksOf H ++ blocksOf H'
  | [], _ => rfl
  | e :: r, H' => by
    simp only [List.cons_append, blocksOf, blocksOf_append r H']
    cases e.o <;> rfl

theorem Owns.lt {w : World} {H : List HE} (h : Owns w H) : ∀ b ∈ blocksOf H, b < w.heap.size := by
  have key : ∀ (l : List HE), (∀ e ∈ l, e ∈ H) → ∀ b ∈ blocksOf l, b < w.heap.size := by
    intro l
    induction l with
    | nil => intro _ b hb; simp [blocksOf] at hb
    | cons e r ih =>
      intro hs b hb
      have ih' := ih (fun e' he' => hs e' (List.mem_cons_of_mem _ he'))
      simp only [blocksOf] at hb
      cases ho : e.o with
      | hole => simp only [ho] at hb; exact ih' b hb
      | cells _ _ =>
        simp only [ho, List.mem_cons] at hb
        rcases hb with rfl | hb
        · exact lt_of_some (h.1 e (hs e (by simp)) (by rw [ho]; rfl))
        · exact ih' b hb
      | other _ =>
        simp only [ho, List.mem_cons] at hb
        rcases hb with rfl | hb
        · exact lt_of_some (h.1 e (hs e (by simp)) (by rw [ho]; rfl))
        · exact ih' b hb
  exact key H (fun e he => he)

/-- A new block is known, too. 'wb': the world before it was made. -/
theorem Owns.push {wb w : World} {H : List HE} {b : Nat} {o : HO} (hb : ∀ x ∈ blocksOf H, x < wb.heap.size) (h : Owns w H) (hs : wb.heap.size ≤ b) (ho : w.heap[b]? = some o.obj) : Owns w (H ++ [⟨b, o⟩]) := by
  refine ⟨fun e he hf => ?_, ?_⟩
  · rcases List.mem_append.1 he with he | he
    · exact h.1 e he hf
    · simp only [List.mem_singleton] at he
      subst he
      exact ho
  · rw [blocksOf_append]
    cases o with
    | hole => simpa [blocksOf] using h.2
    | _ =>
      simp only [blocksOf]
      rw [List.nodup_append]
      refine ⟨h.2, by simp, fun x hx y hy => ?_⟩
      simp only [List.mem_singleton] at hy
      subst hy
      have := hb x hx
      omega

theorem WI.new {w0 wb w : World} {D : List Nat} {H : List HE} {b : Nat} {nw : Option HO} (hb : ∀ x ∈ blocksOf H, x < wb.heap.size) (hsz : w0.heap.size ≤ wb.heap.size) (h : WI w0 D H w)
    (hn : ∀ ho, nw = some ho → wb.heap.size ≤ b ∧ w.heap[b]? = some ho.obj) : WI w0 D (H ++ newH b nw) w := by
  cases nw with
  | none => simpa [newH] using h
  | some o =>
    obtain ⟨h1, h2⟩ := hn o rfl
    refine ⟨Owns.push hb h.owns h1 h2, h.os, h.tape, h.output, h.size, h.far, fun x hx => ?_⟩
    rw [newH, blocksOf_append] at hx
    rcases List.mem_append.1 hx with hx | hx
    · exact h.near x hx
    · cases o <;> simp only [blocksOf, List.mem_singleton, List.not_mem_nil] at hx
      · subst hx; exact .inr (Nat.le_trans hsz h1)
      · subst hx; exact .inr (Nat.le_trans hsz h1)

/-! ### results -/
def resSem (a : Act) : ResultVar → Sem Value
  | .tmp t => pure (a.tmps.getD t undef)
  | .cell c t => do loadVar t (← asAddr (a.tmps.getD c undef))

theorem resVal_ok {n : Nat} {fr : Fr} {a : Act} {s : St} {w : World} {r : ResultVar} {x : TV} {ob : List Ob} (hA : Agrees n fr a) (hO : Owns w s.H)
    (h : resVal P fr s r = some (x, ob)) (ho : ∀ o ∈ ob, o.ok P) :
    Sem.run P (resSem a r) w = .ok x.v w := by
  have hG : Gok none := fun g hg => by simp at hg
  cases r with
  | tmp t =>
    simp only [resVal] at h
    have := (opnd_ok hA hG h ho).1
    simp only [Act.eval] at this
    simp only [resSem, this, Sem.run_pure]
  | cell c t =>
    simp only [resVal] at h
    cases h1 : opnd fr none (.tmp c) with
    | none => simp [h1] at h
    | some q =>
      obtain ⟨y, o1⟩ := q
      simp only [h1] at h
      cases h2 : loadAt P s t y with
      | none => simp [h2] at h
      | some q2 =>
        obtain ⟨z, o2⟩ := q2
        simp only [h2, Option.some.injEq, Prod.mk.injEq] at h
        obtain ⟨rfl, rfl⟩ := h
        have e1 := (opnd_ok hA hG h1 (fun o' h' => ho o' (by simp [h']))).1
        have e2 := loadAt_ok hO h2 (fun o' h' => ho o' (by simp [h']))
        simp only [Act.eval] at e1
        simp only [resSem, e1]
        cases hy : y.v with
        | pointer q =>
          cases q with
          | none => rw [hy] at e2; simp [Instr.loadAt, Instr.sureAddr] at e2
          | some ad =>
            rw [hy] at e2
            simpa [Instr.loadAt, Instr.sureAddr, asAddr] using e2
        | _ => rw [hy] at e2; simp [Instr.loadAt, Instr.sureAddr] at e2

theorem resVals_ok {n : Nat} {fr : Fr} {a : Act} {s : St} {w : World} (hA : Agrees n fr a) (hO : Owns w s.H) : ∀ {rs : List ResultVar} {xs : List TV} {ob : List Ob},
    resVals P fr s rs = some (xs, ob) → (∀ o ∈ ob, o.ok P) →
    Sem.run P (rs.mapM (resSem a)) w = .ok (valsOf xs) w
  | [], xs, ob, h, _ => by simp [resVals] at h; obtain ⟨rfl, rfl⟩ := h; simp [valsOf]
  | r :: rs, xs, ob, h, ho => by
    simp only [resVals] at h
    cases h1 : resVal P fr s r with
    | none => simp [h1] at h
    | some q =>
      obtain ⟨x, o1⟩ := q
      simp only [h1] at h
      cases h2 : resVals P fr s rs with
      | none => simp [h2] at h
      | some q2 =>
        obtain ⟨xs', o2⟩ := q2
        simp only [h2, Option.some.injEq, Prod.mk.injEq] at h
        obtain ⟨rfl, rfl⟩ := h
        have e1 := resVal_ok hA hO h1 (fun o' h' => ho o' (by simp [h']))
        have e2 := resVals_ok hA hO h2 (fun o' h' => ho o' (by simp [h']))
        rw [List.mapM_cons]
        simp only [Sem.run_bind, e1, Result.andThen_ok, e2, Sem.run_pure, valsOf]

theorem results_ok {n : Nat} {fr : Fr} {a : Act} {s : St} {w : World} {fn : Func} {xs : List TV} {ob : List Ob} (hA : Agrees n fr a) (hO : Owns w s.H)
    (h : resVals P fr s fn.results.toList = some (xs, ob)) (ho : ∀ o ∈ ob, o.ok P) : (results fn a.tmps).run P w = .ok (resTV xs).v w := by
  have h1 := resVals_ok hA hO h ho
  have hm : ∀ (f : ResultVar → Sem Value), (fn.results.mapM f) = (List.toArray <$> fn.results.toList.mapM f) := fun f => by
    exact Array.mapM_eq_mapM_toList
  have hr : results fn a.tmps = (do
      let vs ← fn.results.mapM (resSem a)
      pure (if h : vs.size = 1 then vs[0] else .tuple vs)) := rfl
  rw [hr, hm]
  simp only [Sem.run_bind, Sem.run_map, h1, Result.andThen_ok, Sem.run_pure]
  congr 1
  cases xs with
  | nil => simp [valsOf, resTV]
  | cons x r =>
    cases r with
    | nil => simp [valsOf, resTV]
    | cons y r => simp [valsOf, resTV]
end Go.Proofs.Ytbbpmhbeohpmnaa.Rx
