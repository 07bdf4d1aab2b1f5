/- The executor is sound: operands, the plain part of an operation, memory. -/
import Derived.Test.YtbbpmhbeohpmnaaEng2
import Derived.Laws.Cells
import Derived.Laws.StructEq
import Derived.Laws.World
namespace Go.Proofs.Ytbbpmhbeohpmnaa.Rx
open Go.RowKit

def SE.holds (a : Act) (i : Nat) : SE → Prop
  | .val x => a.tmps[i]? = some x.v
  | .spec g x => (g = true → a.tmps[i]? = some x.v) ∧ (g = false → a.tmps[i]? = some undef)
  | .lit b => a.tmps[i]? = some (.bool b)
  | .junk => True

structure Agrees (n : Nat) (fr : Fr) (a : Act) : Prop where
  defers : a.defers = []
  size : a.tmps.size = n
  slot : ∀ i, (look fr i).holds a i

def Gok (G : Option Bool) : Prop := ∀ g, G = some g → g = true

theorem eval_tmp {a : Act} {i : Nat} {v : Value} (h : a.tmps[i]? = some v) : a.eval (.tmp i) = v := by
  simp [Act.eval, Array.getD_eq_getD_getElem?, h]

variable {P : Program} {Z : World → Prop}

theorem opnd_ok {n : Nat} {fr : Fr} {a : Act} {G : Option Bool} {x : Operand} {y : TV} {ob : List Ob} (hA : Agrees n fr a) (hG : Gok G)
    (h : opnd fr G x = some (y, ob)) (ho : ∀ o ∈ ob, o.ok P) : a.eval x = y.v ∧ rho fr x = y.v := by
  cases x with
  | tmp i =>
    have hs := hA.slot i
    simp only [opnd, rho] at h ⊢
    cases hl : look fr i with
    | val z => rw [hl] at h hs; simp at h; obtain ⟨rfl, rfl⟩ := h; exact ⟨eval_tmp hs, rfl⟩
    | lit b => rw [hl] at h hs; simp at h; obtain ⟨rfl, rfl⟩ := h; exact ⟨eval_tmp hs, rfl⟩
    | spec g z =>
      rw [hl] at h hs
      cases G with
      | none => simp at h
      | some g' =>
        simp at h
        obtain ⟨rfl, rfl⟩ := h
        have h1 := ho (.syn g' g) (by simp)
        have h2 := hG g' rfl
        simp only [Ob.ok] at h1
        exact ⟨eval_tmp (hs.1 (h1 ▸ h2)), rfl⟩
    | junk => rw [hl] at h; simp at h
  | const v => simp [opnd] at h; obtain ⟨rfl, rfl⟩ := h; exact ⟨rfl, rfl⟩
  | global g => simp [opnd] at h; obtain ⟨rfl, rfl⟩ := h; exact ⟨rfl, rfl⟩
  | func f => simp [opnd] at h; obtain ⟨rfl, rfl⟩ := h; exact ⟨rfl, rfl⟩

theorem opnds_ok {n : Nat} {fr : Fr} {a : Act} {G : Option Bool} (hA : Agrees n fr a) (hG : Gok G) : ∀ {l : List Operand} {ys : List TV} {ob : List Ob},
    opnds fr G l = some (ys, ob) → (∀ o ∈ ob, o.ok P) → l.map a.eval = valsOf ys ∧ ∀ x ∈ l, rho fr x = a.eval x
  | [], ys, ob, h, _ => by simp [opnds] at h; obtain ⟨rfl, rfl⟩ := h; exact ⟨rfl, by simp⟩
  | x :: r, ys, ob, h, ho => by
    simp only [opnds] at h
    cases h1 : opnd fr G x with
    | none => rw [h1] at h; simp at h
    | some p =>
      obtain ⟨v, o⟩ := p
      rw [h1] at h
      simp only [] at h
      cases h2 : opnds fr G r with
      | none => rw [h2] at h; simp at h
      | some q =>
        obtain ⟨vs, os⟩ := q
        rw [h2] at h
        simp at h
        obtain ⟨rfl, rfl⟩ := h
        have e1 := opnd_ok hA hG h1 (fun o' ho' => ho o' (by simp [ho']))
        have e2 := opnds_ok hA hG h2 (fun o' ho' => ho o' (by simp [ho']))
        refine ⟨by simp [valsOf, e1.1, e2.1], fun y hy => ?_⟩
        rcases List.mem_cons.1 hy with rfl | hy
        · rw [e1.1, e1.2]
        · exact e2.2 y hy

theorem semRun_ok {α : Type} (b : Nat) : ∀ (e : Sem α) (u : Option Obj) (x : α) (u' : Option Obj), semRun P b e u = some (x, u') →
    (u = none → u' = none → ∀ w, e.run P w = .ok x w) ∧
    (u = none → ∀ o, u' = some o → ∀ w : World, w.heap.size = b → e.run P w = .ok x { w with heap := w.heap.push o }) ∧
    (∀ o, u = some o → u' = some o ∧ ∀ w, e.run P w = .ok x w) := by
  intro e
  induction e with
  | pure a =>
    intro u x u' h
    simp [semRun] at h
    obtain ⟨rfl, rfl⟩ := h
    exact ⟨fun _ _ _ => rfl, fun h1 o h2 => by rw [h1] at h2; simp at h2, fun o h1 => ⟨h1, fun _ => rfl⟩⟩
  | program k ih =>
    intro u x u' h
    simp only [semRun] at h
    exact ih P u x u' h
  | mark m k ih =>
    intro u x u' h
    simp only [semRun] at h
    exact ih u x u' h
  | new o k ih =>
    intro u x u' h
    cases u with
    | some o' => simp [semRun] at h
    | none =>
      simp only [semRun] at h
      obtain ⟨_, _, h3⟩ := ih b (some o) x u' h
      obtain ⟨h4, h5⟩ := h3 o rfl
      subst h4
      refine ⟨fun _ h => by simp at h, fun _ o' ho' w hw => ?_, fun o' ho' => by simp at ho'⟩
      simp only [Option.some.injEq] at ho'
      subst ho'
      simp only [Sem.run]
      rw [hw]
      exact h5 _
  | _ => intro u x u' h; simp [semRun] at h

/-! ### lists -/
theorem nth_eq {α : Type} : ∀ (l : List α) (i : Nat), nth l i = l[i]?
  | [], i => by simp [nth]
  | a :: l, 0 => by simp [nth]
  | a :: l, i + 1 => by simp [nth, nth_eq l i]

theorem setNth_eq {α : Type} : ∀ (l : List α) (i : Nat) (x : α), setNth l i x = l.set i x
  | [], i, x => by simp [setNth]
  | a :: l, 0, x => by simp [setNth]
  | a :: l, i + 1, x => by simp [setNth, setNth_eq l i x]

theorem lenIs_iff {α : Type} : ∀ (l : List α) (n : Nat), lenIs l n = true ↔ l.length = n
  | [], 0 => by simp [lenIs]
  | [], n + 1 => by simp [lenIs]
  | a :: l, 0 => by simp [lenIs]
  | a :: l, n + 1 => by simp [lenIs, lenIs_iff l n]

theorem valsOf_eq : ∀ l : List TV, valsOf l = l.map (·.v)
  | [] => rfl
  | x :: r => by simp [valsOf, valsOf_eq r]

theorem zipT_v : ∀ (vs : List Value) (ts : List Tag), valsOf (zipT vs ts) = vs
  | [], _ => by simp [zipT, valsOf]
  | v :: vs, [] => by simp [zipT, valsOf, zipT_v vs []]
  | v :: vs, t :: ts => by simp [zipT, valsOf, zipT_v vs ts]

theorem setAt_eq {α : Type} : ∀ (l : List α) (n : Nat) (xs : List α), n + xs.length ≤ l.length → setAt l n xs = l.take n ++ xs ++ l.drop (n + xs.length)
  | l, n, [], _ => by simp [setAt]
  | [], n, x :: xs, h => by simp at h
  | a :: l, 0, x :: xs, h => by
    simp only [setAt]
    rw [setAt_eq l 0 xs (by simp at h ⊢; omega)]
    simp
  | a :: l, n + 1, x :: xs, h => by
    simp only [setAt]
    rw [setAt_eq l n (x :: xs) (by simp at h ⊢; omega)]
    rw [show n + 1 + (x :: xs).length = (n + (x :: xs).length) + 1 by omega, List.drop_succ_cons, List.take_succ_cons]
    rfl

theorem setAt_cons {α : Type} : ∀ (l : List α) (n : Nat) (v : α) (vs : List α), setAt (l.set n v) (n + 1) vs = setAt l n (v :: vs)
  | [], n, v, vs => by cases vs <;> simp [setAt]
  | a :: l, 0, v, vs => by cases vs <;> simp [setAt]
  | a :: l, n + 1, v, vs => by
    have := setAt_cons l n v vs
    cases vs with
    | nil => simp only [List.set_cons_succ, setAt] at this ⊢; rw [this]
    | cons u us => simp only [List.set_cons_succ, setAt] at this ⊢; rw [this]

theorem setAt_app {α : Type} : ∀ (x post : List α) (off : Nat) (vs : List α), off + vs.length ≤ x.length → setAt (x ++ post) off vs = setAt x off vs ++ post
  | x, post, off, [], _ => by simp [setAt]
  | [], post, off, v :: vs, h => by simp at h
  | a :: x, post, 0, v :: vs, h => by
    simp only [List.cons_append, setAt]
    rw [setAt_app x post 0 vs (by simp at h ⊢; omega)]
  | a :: x, post, off + 1, v :: vs, h => by
    simp only [List.cons_append, setAt]
    rw [setAt_app x post off (v :: vs) (by simp at h ⊢; omega)]

theorem setAt_mid {α : Type} : ∀ (pre x post : List α) (off : Nat) (vs : List α), off + vs.length ≤ x.length →
    setAt (pre ++ x ++ post) (pre.length + off) vs = pre ++ setAt x off vs ++ post
  | [], x, post, off, vs, h => by simpa using setAt_app x post off vs h
  | a :: pre, x, post, off, [], _ => by simp [setAt]
  | a :: pre, x, post, off, v :: vs, h => by
    have := setAt_mid pre x post off (v :: vs) h
    rw [List.length_cons, show pre.length + 1 + off = (pre.length + off) + 1 by omega]
    simp only [List.cons_append, setAt]
    rw [this]

theorem setAt_map {α β : Type} (f : α → β) : ∀ (l : List α) (n : Nat) (xs : List α), (setAt l n xs).map f = setAt (l.map f) n (xs.map f)
  | l, n, [] => by simp [setAt]
  | [], n, x :: xs => by simp [setAt]
  | a :: l, 0, x :: xs => by simp [setAt, setAt_map f l 0 xs]
  | a :: l, n + 1, x :: xs => by
    have := setAt_map f l n (x :: xs)
    simp only [setAt, List.map_cons] at this ⊢
    rw [this]

theorem flat_cons (c : Chunk) (r : List Chunk) : flat (c :: r) = c.vals ++ flat r := by
  cases r <;> simp [flat]

theorem flat_split : ∀ (cs : List Chunk) (i : Nat) (c : Chunk), nth cs i = some c →
    ∃ pre post, pre.length = startOf cs i ∧ ∀ c', flat (setNth cs i c') = pre ++ c'.vals ++ post
  | [], i, c, h => by simp [nth] at h
  | d :: r, 0, c, h => ⟨[], flat r, by simp [startOf], fun c' => by simp [setNth, flat_cons]⟩
  | d :: r, i + 1, c, h => by
    simp only [nth] at h
    obtain ⟨pre, post, h1, h2⟩ := flat_split r i c h
    exact ⟨d.vals ++ pre, post, by simp [startOf, h1], fun c' => by simp [setNth, flat_cons, h2]⟩

theorem setNth_self {α : Type} : ∀ (l : List α) (i : Nat) (x : α), nth l i = some x → setNth l i x = l
  | [], i, x, h => by simp [nth] at h
  | a :: l, 0, x, h => by simp [nth] at h; simp [setNth, h]
  | a :: l, i + 1, x, h => by simp only [nth] at h; simp [setNth, setNth_self l i x h]

theorem flat_at {cs : List Chunk} {i : Nat} {l : List TV} (h : nth cs i = some (.kn l)) :
    ∃ pre post, pre.length = startOf cs i ∧ flat cs = pre ++ valsOf l ++ post ∧ ∀ l', flat (setNth cs i (.kn l')) = pre ++ valsOf l' ++ post := by
  obtain ⟨pre, post, h1, h2⟩ := flat_split cs i _ h
  refine ⟨pre, post, h1, ?_, fun l' => h2 (.kn l')⟩
  have := h2 (.kn l)
  rw [setNth_self _ _ _ h] at this
  exact this

/-! ### memory -/
theorem cell_block {w : World} {b : Nat} {l : List Value} {t : TypeId} {f : Nat × Nat} (h : w.heap[b]? = some (.cells l.toArray t f)) (o : Nat) :
    w.cell? ⟨b, o, none⟩ = l[o]? := by
  simp [World.cell?, h]

theorem frozen_block {w : World} {b : Nat} {l : List Value} {t : TypeId} (h : w.heap[b]? = some (.cells l.toArray t (0, 0))) (o : Nat) :
    w.frozen? ⟨b, o, none⟩ = false := by
  simp [World.frozen?, h]

theorem cell_add (w : World) (b o n : Nat) : w.cell? ((⟨b, o, none⟩ : Addr).add n) = w.cell? ⟨b, o + n, none⟩ := by
  unfold Addr.add
  split <;> simp_all

theorem add_eq (b o n : Nat) : (⟨b, o, none⟩ : Addr).add n = ⟨b, o + n, none⟩ := by
  unfold Addr.add
  split <;> simp_all

theorem info_of_underlying {t : TypeId} {d : TypeDesc} (h : P.underlying t = some d) : ∃ i, P.info? t = some i ∧ P.cellsOf t = i.size := by
  unfold Program.underlying at h
  cases hi : P.info? t with
  | none => simp [hi] at h
  | some i => exact ⟨i, rfl, by simp [Program.cellsOf, hi]⟩

theorem run_under {w : World} {t : TypeId} {d : TypeDesc} (h : P.underlying t = some d) : (underlying t).run P w = .ok d w := by
  simp [underlying, h]

theorem run_size {w : World} {t : TypeId} {i : TypeInfo} (h : P.info? t = some i) : (sizeOf t).run P w = .ok i.size w := by
  simp [sizeOf, typeInfo, h]

theorem run_isAgg {w : World} {t : TypeId} {b : Bool} (h : aggOf P t = some b) : (Go.isAgg t).run P w = .ok b w := by
  unfold aggOf at h
  cases hu : P.underlying t with
  | none => simp [hu] at h
  | some d =>
    simp only [Go.isAgg, Sem.run_bind, run_under hu, Result.andThen_ok]
    cases d <;> simp_all

theorem agg_info {t : TypeId} {b : Bool} (h : aggOf P t = some b) : ∃ i, P.info? t = some i ∧ P.cellsOf t = i.size := by
  unfold aggOf at h
  cases hu : P.underlying t with
  | none => simp [hu] at h
  | some d => exact info_of_underlying hu

/-- A row of cells is read whole. -/
theorem run_loadVar_agg {w : World} {t : TypeId} {b o : Nat} {l vs : List Value} {e : TypeId} (ha : aggOf P t = some true) (hb : w.heap[b]? = some (.cells l.toArray e (0, 0)))
    (hl : vs.length = P.cellsOf t) (hv : ∀ j v, vs[j]? = some v → l[o + j]? = some v) : (loadVar t ⟨b, o, none⟩).run P w = .ok (.agg vs.toArray) w := by
  obtain ⟨i, hi, hs⟩ := agg_info ha
  simp only [loadVar, Sem.run_bind, run_isAgg ha, Result.andThen_ok, if_true, run_size hi]
  rw [← hs, ← hl, run_loadCells_list w ⟨b, o, none⟩ vs (fun j v hj => by rw [cell_add, cell_block hb]; exact hv j v hj)]
  rfl

theorem run_loadVar_one {w : World} {t : TypeId} {b o : Nat} {l : List Value} {v : Value} {e : TypeId} (ha : aggOf P t = some false) (hb : w.heap[b]? = some (.cells l.toArray e (0, 0)))
    (hv : l[o]? = some v) : (loadVar t ⟨b, o, none⟩).run P w = .ok v w := by
  simp only [loadVar, Sem.run_bind, run_isAgg ha, Result.andThen_ok, Bool.false_eq_true, if_false, run_load, cell_block hb, hv]

/-- The world with another row of cells in a block. -/
def setBlk (w : World) (b : Nat) (o : Obj) : World := { w with heap := w.heap.setIfInBounds b o }

theorem setCell_blk {w : World} {b o : Nat} {l : List Value} {e : TypeId} {v : Value} (hb : w.heap[b]? = some (.cells l.toArray e (0, 0))) :
    w.setCell ⟨b, o, none⟩ v = setBlk w b (.cells (l.set o v).toArray e (0, 0)) := by
  unfold World.setCell setBlk
  congr 1
  apply Array.ext_getElem?
  intro k
  rw [Array.getElem?_modify, Array.getElem?_setIfInBounds]
  have hlt : b < w.heap.size := by
    rcases Nat.lt_or_ge b w.heap.size with h | h
    · exact h
    · simp [Array.getElem?_eq_none h] at hb
  by_cases hk : b = k
  · subst hk
    rw [if_pos rfl, if_pos rfl, if_pos hlt, hb]
    simp
  · rw [if_neg hk, if_neg hk]

theorem setBlk_same {w : World} {b : Nat} {o o' : Obj} (hb : w.heap[b]? = some o') : (setBlk w b o).heap[b]? = some o := by
  have hlt : b < w.heap.size := by
    rcases Nat.lt_or_ge b w.heap.size with h | h
    · exact h
    · simp [Array.getElem?_eq_none h] at hb
  simp [setBlk, hlt]

theorem setBlk_other {w : World} {b k : Nat} {o : Obj} (h : b ≠ k) : (setBlk w b o).heap[k]? = w.heap[k]? := by
  simp [setBlk, h]

theorem setBlk_setBlk (w : World) (b : Nat) (o o' : Obj) : setBlk (setBlk w b o) b o' = setBlk w b o' := by
  unfold setBlk
  congr 1
  simp

theorem setBlk_self {w : World} {b : Nat} {o : Obj} (hb : w.heap[b]? = some o) : setBlk w b o = w := by
  have hlt : b < w.heap.size := by
    rcases Nat.lt_or_ge b w.heap.size with h | h
    · exact h
    · simp [Array.getElem?_eq_none h] at hb
  have : w.heap.setIfInBounds b o = w.heap := by
    apply Array.ext_getElem?
    intro k
    rw [Array.getElem?_setIfInBounds]
    by_cases hk : b = k
    · subst hk
      rw [if_pos rfl, if_pos hlt, hb]
    · rw [if_neg hk]
  unfold setBlk
  rw [this]

theorem run_storeCells {b : Nat} {e : TypeId} : ∀ (vs : List Value) (w : World) (o i : Nat) (l : List Value), w.heap[b]? = some (.cells l.toArray e (0, 0)) →
    allOne vs = true → o + i + vs.length ≤ l.length →
    (storeCells ⟨b, o, none⟩ vs i).run P w = .ok () (setBlk w b (.cells (setAt l (o + i) vs).toArray e (0, 0)))
  | [], w, o, i, l, hb, _, _ => by
    simp only [storeCells, Sem.run_pure, setAt]
    rw [setBlk_self hb]
  | v :: vs, w, o, i, l, hb, h1, hlen => by
    simp only [allOne, Bool.and_eq_true] at h1
    simp only [List.length_cons] at hlen
    have hc : w.cell? ⟨b, o + i, none⟩ = some (l[o + i]'(by omega)) := by rw [cell_block hb]; simp
    have hs := run_store P w ((⟨b, o, none⟩ : Addr).add i) v .plain h1.1
    rw [add_eq, hc] at hs
    simp only [frozen_block hb, Bool.false_eq_true, if_false] at hs
    simp only [storeCells, Sem.run_bind, add_eq, hs, Result.andThen_ok]
    rw [setCell_blk hb]
    rw [run_storeCells vs _ o (i + 1) (l.set (o + i) v) (setBlk_same hb) h1.2 (by simp; omega), setBlk_setBlk]
    rw [show o + (i + 1) = (o + i) + 1 by omega, setAt_cons]
end Go.Proofs.Ytbbpmhbeohpmnaa.Rx
