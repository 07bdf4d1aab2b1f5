/- Loops over a range; slices that grow; maps of numbers. -/
import Derived.Test.YtbbpmhbeohpmnaaEngE
import Derived.Laws.AppendOwn
import Derived.Laws.MakeOwn
import Derived.MapKept
namespace Go.Proofs.Ytbbpmhbeohpmnaa.Rx
open Go.RowKit
variable {P : Program} {Z : World → Prop}

theorem blocksOf_eq : ∀ H : List HE, blocksOf H = ((H.map HE.key).filter (fun k => k.2.2)).map (·.1)
  | [] => rfl
  | e :: r => by
    simp only [blocksOf, List.map_cons, List.filter_cons, blocksOf_eq r]
    cases h : e.o <;> simp [HE.key, h, HO.full]

/-- The same memory in another order. -/
theorem WI.like {w0 w : World} {D : List Nat} {A B : List HE} (h : WI w0 D A w) (hp : (A.map HE.key).Perm (B.map HE.key)) : WI w0 D B w := by
  have hb : (blocksOf A).Perm (blocksOf B) := by
    rw [blocksOf_eq, blocksOf_eq]
    exact (hp.filter _).map _
  refine ⟨⟨fun e he hf => ?_, hb.nodup_iff.1 h.owns.2⟩, h.os, h.tape, h.output, h.size, h.far, fun b hm => h.near b (hb.mem_iff.2 hm)⟩
  have : e.key ∈ A.map HE.key := hp.mem_iff.2 (List.mem_map_of_mem he)
  obtain ⟨e', he', hk'⟩ := List.mem_map.1 this
  simp only [HE.key, Prod.mk.injEq] at hk'
  rw [← hk'.1, ← hk'.2.1]
  exact h.owns.1 e' he' (by rw [hk'.2.2]; exact hf)

theorem Owns.like {w : World} {A B : List HE} (h : Owns w A) (hp : (A.map HE.key).Perm (B.map HE.key)) : Owns w B := ((WI.start h).like hp).owns

/-! ### orders, by counting -/
noncomputable def clDec (α : Type) : DecidableEq α := fun a b => Classical.propDecidable (a = b)
noncomputable def cnt {α : Type} (a : α) (l : List α) : Nat := @List.count α (@instBEqOfDecidableEq α (clDec α)) a l
noncomputable def cnt1 {α : Type} (a x : α) : Nat := cnt a [x]

theorem cnt_nil {α : Type} (a : α) : cnt a [] = 0 := by simp [cnt]
theorem cnt_append {α : Type} (a : α) (l l' : List α) : cnt a (l ++ l') = cnt a l + cnt a l' := by simp [cnt]
theorem cnt_cons {α : Type} (a x : α) (l : List α) : cnt a (x :: l) = cnt1 a x + cnt a l := by
  show cnt a ([x] ++ l) = _
  rw [cnt_append]
  rfl
theorem perm_of_cnt {α : Type} {l l' : List α} (h : ∀ a, cnt a l = cnt a l') : l.Perm l' :=
  letI := clDec α
  List.perm_iff_count.2 h
theorem cnt_of_perm {α : Type} {l l' : List α} (h : l.Perm l') (a : α) : cnt a l = cnt a l' :=
  letI := clDec α
  List.Perm.count_eq h a

/-- A count up to n. -/
theorem pk_range {fn : Func} {R : Ending → World → Prop} {body : Code} {p : List Nat} {K : List It} {b : Code} (hc : sub body p = .loop b) (n : Nat) (I : Nat → Act → World → Prop)
    (hstep : ∀ k a w, k < n → I k a w → ∀ T : Act → World → Prop, (∀ a w, I (k + 1) a w → T a w) → PK P fn R body (.c (0 :: p) :: .goal T :: K) .normal a w)
    (hend : ∀ a w, I n a w → ∀ T : Act → World → Prop, PK P fn R body (.c (0 :: p) :: .goal T :: K) .normal a w) :
    ∀ k a w, k ≤ n → I k a w → PK P fn R body (.c p :: K) .normal a w := by
  intro k a w hk hI
  refine pk_loop hc (fun m a w => ∃ k, k ≤ n ∧ m = n - k ∧ I k a w) ?_ _ a w ⟨k, hk, rfl, hI⟩
  rintro m a w ⟨k, hk, rfl, hI⟩ T hT
  by_cases hlt : k < n
  · exact hstep k a w hlt hI T fun a w h => hT a w (n - (k + 1)) (by omega) ⟨k + 1, hlt, rfl, h⟩
  · have : k = n := by omega
    subst this
    exact hend a w hI T

theorem WI.below {w0 w w' : World} {D : List Nat} {H : List HE} (h : WI w0 D H w) (hb : Below w.heap.size w w') : WI w0 D H w' := h.turn (Turn.below h.owns hb)

/-- What one block holds is turned. -/
theorem WI.set {w0 w : World} {D : List Nat} {F : List HE} {b : Nat} {o o' : HO} (h : WI w0 D (⟨b, o⟩ :: F) w) (hf : o.full = true) (hf' : o'.full = true) : WI w0 D (⟨b, o'⟩ :: F) (setBlk w b o'.obj) := by
  have hb : w.heap[b]? = some o.obj := h.owns.1 ⟨b, o⟩ (by simp) hf
  have e1 : blocksOf (⟨b, o⟩ :: F) = b :: blocksOf F := by simp only [blocksOf]; cases o <;> first | rfl | simp [HO.full] at hf
  have e2 : blocksOf (⟨b, o'⟩ :: F) = b :: blocksOf F := by simp only [blocksOf]; cases o' <;> first | rfl | simp [HO.full] at hf'
  have hn := h.owns.2
  rw [e1, List.nodup_cons] at hn
  refine ⟨⟨fun e he hfe => ?_, by rw [e2, List.nodup_cons]; exact hn⟩, h.os, h.tape, h.output, by simpa [setBlk] using h.size, fun k hk hd => ?_, fun k hk => h.near k (by rw [e1]; rw [e2] at hk; exact hk)⟩
  · rcases List.mem_cons.1 he with rfl | he
    · exact setBlk_same hb
    · rw [setBlk_other (fun hbe => hn.1 (by rw [hbe]; exact mem_blocks he hfe))]
      exact h.owns.1 e (List.mem_cons_of_mem _ he) hfe
  · rw [setBlk_other (fun hbk => ?_)]
    · exact h.far k hk hd
    · subst hbk
      rcases h.near b (by rw [e1]; simp) with h' | h'
      · exact hd h'
      · omega

theorem below_alloc (w : World) (o : Obj) : Below w.heap.size w (w.alloc o) :=
  ⟨rfl, rfl, rfl, by show w.heap.size ≤ (w.heap.push o).size; simp, fun k hk => by
    show (w.heap.push o)[k]? = _
    rw [Array.getElem?_push_lt hk, Array.getElem?_eq_getElem hk]⟩

theorem below_drew (w : World) : Below w.heap.size w w.drew := ⟨rfl, rfl, rfl, Nat.le_refl _, fun _ _ => rfl⟩

theorem WI.alloc {w0 w : World} {D : List Nat} {F : List HE} {o : HO} (h : WI w0 D F w) : WI w0 D (⟨w.heap.size, o⟩ :: F) (w.alloc o.obj) := by
  have h1 := WI.new (wb := w) (nw := some o) (b := w.heap.size) (fun x hx => h.owns.lt x hx) h.size (h.below (below_alloc w o.obj)) (fun ho he => by
    simp only [Option.some.injEq] at he
    subst he
    refine ⟨Nat.le_refl _, ?_⟩
    show (w.heap.push _)[w.heap.size]? = _
    simp)
  exact h1.append_comm

/-! ### a call that turns what is known -/
theorem wi_of_facts {w0 w : World} {D : List Nat} {H : List HE} (h : FactsOk w0 D (facts H) w) (hf : Far w0 D w) : WI w0 D H w := by
  refine ⟨⟨fun e he hfull => ?_, by rw [← facts_map]; exact h.2.1⟩, hf.os, hf.tape, hf.output, hf.size, hf.far, fun b hb => ?_⟩
  · refine h.1 (e.b, e.o.obj) ?_
    clear h
    induction H with
    | nil => simp at he
    | cons d r ih =>
      simp only [facts]
      rcases List.mem_cons.1 he with rfl | he
      · cases ho : e.o <;> simp [ho, HO.full] at hfull ⊢
      · cases d.o <;> simp [ih he]
  · rw [← facts_map] at hb
    obtain ⟨q, hq, rfl⟩ := List.mem_map.1 hb
    exact h.2.2 q hq

def Turns (P : Program) (H : List HE) (f : FuncId) (args : List Value) (v : Value) (H' : List HE) : Prop :=
  ∀ w, Owns w H → Calls P f args.toArray w fun e w' => e = .returned v ∧ WI w (blocksOf H) H' w'

theorem turn_run (hP : Fit P) {S : List TypeId} (hS : SafeAll P S) {f : FuncId} {fn : Func} {body : Code} (hf : P.funcs[f]? = some fn) (hb : fn.body = some body)
    (ys : List TV) (H H' : List HE) (fuel : Nat) (hs : List Hint) (mask : List Bool) (ts ds : List Bool) (ps : (Nat → Nat × Nat) → List Prop) {v : Value}
    (hrun : ∀ ν, fin1 S mask [] (run P noZ ν fuel ⟨fn, body, ys.length + (fn.ntmps - ys.length), [.c []], enum 0 ys⟩ [] ⟨H, 0, hs⟩ []) =
      (true, synRof (run P noZ ν fuel ⟨fn, body, ys.length + (fn.ntmps - ys.length), [.c []], enum 0 ys⟩ [] ⟨H, 0, hs⟩ []), ⟨ts, ds, ps ν, .ret v (facts H')⟩))
    (hts : ts = ds) (hps : ∀ ν, All (ps ν)) : Turns P H f (valsOf ys) v H' := fun _w hO =>
  calls_run hP hS hf hb ys H fuel hs mask [] (fun ν => ⟨ts, ds, ps ν, .ret v (facts H')⟩) hO hrun (fun _ => hts) hps (fun _ _ hfact hfar => ⟨rfl, wi_of_facts hfact hfar⟩)

/-- What a run shows, the rest of memory beside it. -/
def OutV.okF (P : Program) (fn : Func) (R : Ending → World → Prop) (body : Code) (n : Nat) (w0 : World) (D : List Nat) (F : List HE) : OutV → Prop
  | .ret v L => ∀ w, (∀ H, facts H = L → WI w0 D (H ++ F) w) → R (.returned v) w
  | .stop K fr H => ∀ a w, Agrees n fr a → WI w0 D (H ++ F) w → PK P fn R body K .normal a w

theorem WI.left {w0 w : World} {D : List Nat} {A B : List HE} (h : WI w0 D (A ++ B) w) : Owns w A := (h.sub (List.sublist_append_left A B)).owns

theorem pk_runFC (hP : Fit P) {S : List TypeId} (hS : SafeAll P S) (Z : World → Prop) {fn : Func} {R : Ending → World → Prop} {body : Code} {n : Nat} {w0 w : World} {D : List Nat} {a : Act}
    {K : List It} {fr : Fr} {H F : List HE} (fuel : Nat) (hs : List Hint) (mask : List Bool) (sl : List Nat) (V : (Nat → Nat × Nat) → View)
    (hA : Agrees n fr a) (hW : WI w0 D (H ++ F) w) (hZ : ∀ w', Far w (blocksOf H) w' → Z w')
    (hrun : ∀ ν, fin1 S mask sl (run P Z ν fuel ⟨fn, body, n, K, fr⟩ [] ⟨H, 0, hs⟩ []) = (true, synRof (run P Z ν fuel ⟨fn, body, n, K, fr⟩ [] ⟨H, 0, hs⟩ []), V ν))
    (hts : ∀ ν, (V ν).ts = (V ν).ds) (hps : ∀ ν, All (V ν).ps) (hout : ∀ ν, (V ν).out.okF P fn R body n w0 D F) :
    PK P fn R body K .normal a w := by
  refine pk_runC hP hS fuel hs mask sl V hA (WI.start hW.left) hZ hrun hts hps fun ν => ?_
  have h := hout ν
  cases ho : (V ν).out with
  | stop K fr H' =>
    rw [ho] at h
    exact fun a w' hA hW' => h a w' hA (hW.call hW')
  | ret v L =>
    rw [ho] at h
    exact fun w' hF hfar => h w' fun H' e => hW.call (wi_of_facts (e ▸ hF) hfar)

theorem pk_runF (hP : Fit P) {S : List TypeId} (hS : SafeAll P S) {fn : Func} {R : Ending → World → Prop} {body : Code} {n : Nat} {w0 w : World} {D : List Nat} {a : Act}
    {K : List It} {fr : Fr} {H F : List HE} (fuel : Nat) (hs : List Hint) (mask : List Bool) (sl : List Nat) (V : (Nat → Nat × Nat) → View)
    (hA : Agrees n fr a) (hW : WI w0 D (H ++ F) w)
    (hrun : ∀ ν, fin1 S mask sl (run P noZ ν fuel ⟨fn, body, n, K, fr⟩ [] ⟨H, 0, hs⟩ []) = (true, synRof (run P noZ ν fuel ⟨fn, body, n, K, fr⟩ [] ⟨H, 0, hs⟩ []), V ν))
    (hts : ∀ ν, (V ν).ts = (V ν).ds) (hps : ∀ ν, All (V ν).ps) (hout : ∀ ν, (V ν).out.okF P fn R body n w0 D F) :
    PK P fn R body K .normal a w :=
  pk_runFC hP hS noZ fuel hs mask sl V hA hW (fun _ _ => trivial) hrun hts hps hout

theorem one_of {l : List Value} (h : allOne l = true) : ∀ u ∈ l, u.oneCell' = true := by
  induction l with
  | nil => simp
  | cons x r ih =>
    simp only [allOne, Bool.and_eq_true] at h
    intro u hu
    rcases List.mem_cons.1 hu with rfl | hu
    · exact h.1
    · exact ih h.2 u hu

/-! ### slices that grow -/
/-- Room behind what a slice holds. -/
def padZ (z : Value) (k : Nat) : List Value := (Builtin.zeroCells z.cells k).toList

theorem padZ_length (z : Value) (k : Nat) : (padZ z k).length = k * z.cells.size := by simp [padZ, size_zeroCells]

theorem padZ_drop (z : Value) (k m : Nat) : (padZ z (m + k)).drop (m * z.cells.size) = padZ z k := by
  apply List.ext_getElem?
  intro j
  rw [List.getElem?_drop]
  simp only [padZ, Builtin.zeroCells, Array.getElem?_toList, Array.getElem?_map]
  have h1 : (Array.range ((m + k) * z.cells.size))[m * z.cells.size + j]? = if j < k * z.cells.size then some (m * z.cells.size + j) else none := by
    rw [Nat.add_mul]
    by_cases h : j < k * z.cells.size
    · simp [h]
    · simp [h]
  have h2 : (Array.range (k * z.cells.size))[j]? = if j < k * z.cells.size then some j else none := by
    by_cases h : j < k * z.cells.size
    · simp [h]
    · simp [h]
  rw [h1, h2]
  split
  · simp [Nat.add_mod]
  · rfl

def rowV : Option (Nat × Nat) → Nat → Value
  | none, _ => .slice none 0 0
  | some (b, c), n => .slice (some ⟨b, 0, none⟩) n c

def rowH (e : TypeId) (z : Value) (xs : List Value) (n : Nat) : Option (Nat × Nat) → List HE
  | none => []
  | some (b, c) => [⟨b, .cells e [.op (xs ++ padZ z (c - n))]⟩]

def rowOk : Option (Nat × Nat) → Nat → Prop
  | none, n => n = 0
  | some (_, c), n => n ≤ c ∧ c ≤ maxLen

theorem append_row {w0 w : World} {D : List Nat} {F : List HE} {t ty e : TypeId} {i : TypeInfo} {z : Value} {size bytes : Nat} (ht : P.underlying t = some (.slice e)) (hi : P.info? e = some i) (hz : i.zero = some z)
    (hsize : i.size = size) (hby : i.bytes = bytes) (hzs : z.cells.size = size)
    {r : Option (Nat × Nat)} {n : Nat} {xs : List Value} (hr : rowOk r n) (hx : xs.length = n * size) (hW : WI w0 D (rowH e z xs n r ++ F) w)
    {a : Addr} {m c : Nat} {news : List Value} (hm : 0 < m) (hl : news.length = m * size) (hnews : ∀ j u, news[j]? = some u → w.cell? (a.add j) = some u) (h1 : ∀ u ∈ news, u.oneCell' = true)
    (h63 : n + m ≤ maxLen) (hbytes : (n + m) * bytes ≤ 140737488355328) :
    ∃ b' c' w', (Builtin.append_ #[t, t] ty #[rowV r n, .slice (some a) m c]).run P w = .ok (.slice (some ⟨b', 0, none⟩) (n + m) c') w' ∧ rowOk (some (b', c')) (n + m) ∧
      WI w0 D (rowH e z (xs ++ news) (n + m) (some (b', c')) ++ F) w' := by
  subst hsize
  subst hby
  have hsmall : n + m ≤ 9223372036854775807 := by simp only [maxLen] at h63; omega
  cases r with
  | none =>
    simp only [rowOk] at hr
    subst hr
    have hx0 : xs = [] := List.eq_nil_of_length_eq_zero (by simpa using hx)
    subst hx0
    have hg := run_append_nil (P := P) w t ty e i z ht hi hz a m c news hl hnews hm (by omega) (by have hb := hbytes; simp only [Nat.zero_add] at hb; omega)
    simp only [Nat.zero_add]
    refine ⟨_, _, _, hg, ⟨grownCap_ge w m 0 e, grownCap_le_maxLen w m 0 e (by omega)⟩, ?_⟩
    have hW' : WI w0 D F w.drew := (show WI w0 D F w from hW).below (below_drew w)
    have := hW'.alloc (o := .cells e [.op ([] ++ news ++ padZ z (grownCap w m 0 e - m))])
    have e2 : (HO.cells e [.op ([] ++ news ++ padZ z (grownCap w m 0 e - m))]).obj = .cells (news.toArray ++ Builtin.zeroCells z.cells (grownCap w m 0 e - m)) e := by simp [HO.obj, flat, Chunk.vals, padZ]
    rw [e2] at this
    exact this
  | some q =>
    obtain ⟨b, cap⟩ := q
    simp only [rowOk] at hr
    have hb : w.heap[b]? = some (.cells (xs ++ padZ z (cap - n)).toArray e (0, 0)) := by
      have := hW.owns.1 ⟨b, .cells e [.op (xs ++ padZ z (cap - n))]⟩ (by simp [rowH]) rfl
      simpa [HO.obj, flat, Chunk.vals] using this
    have hlen : (xs ++ padZ z (cap - n)).length = cap * i.size := by
      rw [List.length_append, padZ_length, hzs, hx, ← Nat.add_mul]; congr 1; omega
    by_cases hroom : n + m ≤ cap
    · have hg := run_append_room (P := P) w t ty e i ht hi b n cap _ hb a m c news hl hnews h1 hroom (by
        simp only [List.size_toArray, hlen, hl, ← Nat.add_mul]
        exact Nat.mul_le_mul_right _ hroom)
      refine ⟨b, cap, _, hg, ⟨hroom, hr.2⟩, ?_⟩
      have hcs : (xs ++ padZ z (cap - n)).take (n * i.size) ++ news ++ (xs ++ padZ z (cap - n)).drop (n * i.size + news.length) = xs ++ news ++ padZ z (cap - (n + m)) := by
        rw [← hx, List.take_left, ← List.drop_drop, List.drop_left, hl, ← hzs]
        rw [show cap - n = m + (cap - (n + m)) by omega, padZ_drop]
      have hset : w.setRow b ((xs ++ padZ z (cap - n)).toArray.toList.take (n * i.size) ++ news ++ (xs ++ padZ z (cap - n)).toArray.toList.drop (n * i.size + news.length)).toArray =
          setBlk w b (HO.cells e [.op (xs ++ news ++ padZ z (cap - (n + m)))]).obj := by
        simp only [hcs]
        unfold World.setRow setBlk
        congr 1
        apply Array.ext_getElem?
        intro k
        rw [Array.getElem?_modify, Array.getElem?_setIfInBounds]
        have hlt := lt_of_some hb
        by_cases hk : b = k
        · subst hk
          rw [if_pos rfl, if_pos rfl, if_pos hlt, hb]
          simp [HO.obj, flat, Chunk.vals]
        · rw [if_neg hk, if_neg hk]
      rw [hset]
      exact WI.set (o := .cells e [.op (xs ++ padZ z (cap - n))]) hW rfl rfl
    · have holds : ∀ j u, xs[j]? = some u → w.cell? ((⟨b, 0, none⟩ : Addr).add j) = some u := by
        intro j u hj
        rw [add_eq]
        simp only [Nat.zero_add]
        rw [cell_block hb j]
        have hjl : j < xs.length := by
          rcases Nat.lt_or_ge j xs.length with h' | h'
          · exact h'
          · simp [List.getElem?_eq_none h'] at hj
        rw [List.getElem?_append_left hjl, hj]
      have hg := run_append_grow (P := P) w t ty e i z ht hi hz ⟨b, 0, none⟩ n cap xs hx holds a m c news hl hnews (by omega) (by omega) (growslice_fits (by omega) hbytes)
      refine ⟨_, _, _, hg, ⟨grownCap_ge w (n + m) cap e, grownCap_le_maxLen w (n + m) cap e h63⟩, ?_⟩
      have hW' : WI w0 D F w.drew := (hW.sub (List.sublist_append_right _ _)).below (below_drew w)
      have := hW'.alloc (o := .cells e [.op (xs ++ news ++ padZ z (grownCap w (n + m) cap e - (n + m)))])
      have e2 : (HO.cells e [.op (xs ++ news ++ padZ z (grownCap w (n + m) cap e - (n + m)))]).obj = .cells (xs.toArray ++ news.toArray ++ Builtin.zeroCells z.cells (grownCap w (n + m) cap e - (n + m))) e := by simp [HO.obj, flat, Chunk.vals, padZ]
      rw [e2] at this
      exact this

theorem info_of {e : TypeId} {z : Value} {size bytes : Nat} (h : (P.info? e).map (fun i => (i.zero, i.size, i.bytes)) = some (some z, size, bytes)) :
    ∃ i, P.info? e = some i ∧ i.zero = some z ∧ i.size = size ∧ i.bytes = bytes := by
  cases hi : P.info? e with
  | none => simp [hi] at h
  | some i => simp [hi] at h; exact ⟨i, rfl, h.1, h.2.1, h.2.2⟩

/-- append of what lies in one new block. -/
theorem pk_append {fn : Func} {R : Ending → World → Prop} {body : Code} {p : List Nat} {i : Nat} {K : List It} {N : Nat} {fr : Fr} {a : Act} {w0 w : World} {D : List Nat} {F : List HE}
    (o : Oper) (s x : Operand) (t e : TypeId) {z : Value} {size bytes : Nat} {r : Option (Nat × Nat)} {k nb m cm : Nat} {xs news : List Value} {tg tg' : Tag}
    (ho : nth (opsOf (sub body p)) i = some o) (hg : o.guard = none) (hop : o.op = .call ⟨.builtin .append, #[s, x], #[t, t]⟩) (hA : Agrees N fr a)
    (hs : opnd fr none s = some (⟨rowV r k, tg⟩, [])) (hx : opnd fr none x = some (⟨.slice (some ⟨nb, 0, none⟩) m cm, tg'⟩, []))
    (ht : P.underlying t = some (.slice e)) (hi : (P.info? e).map (fun i => (i.zero, i.size, i.bytes)) = some (some z, size, bytes)) (hzs : z.cells.size = size)
    (hr : rowOk r k) (hxs : xs.length = k * size) (hW : WI w0 D (rowH e z xs k r ++ F) w) (hm : 0 < m) (hl : news.length = m * size) (hnb : w.heap[nb]? = some (.cells news.toArray e (0, 0)))
    (h1 : ∀ u ∈ news, u.oneCell' = true) (h63 : k + m ≤ maxLen) (hbytes : (k + m) * bytes ≤ 140737488355328)
    (hk : ∀ b' c' w', rowOk (some (b', c')) (k + m) → WI w0 D (rowH e z (xs ++ news) (k + m) (some (b', c')) ++ F) w' → PK P fn R body (.ops p (i + 1) :: K) .normal (a.put o.dst (.slice (some ⟨b', 0, none⟩) (k + m) c')) w') :
    PK P fn R body (.ops p i :: K) .normal a w := by
  obtain ⟨inf, i1, i2, i3, i4⟩ := info_of hi
  have hnews : ∀ j u, news[j]? = some u → w.cell? ((⟨nb, 0, none⟩ : Addr).add j) = some u := by
    intro j u hj
    rw [add_eq]
    simp only [Nat.zero_add]
    rw [cell_block hnb j]
    exact hj
  obtain ⟨b', c', w', hrun, q1, q2⟩ := append_row (ty := o.type) ht i1 i2 i3 i4 hzs hr hxs hW hm hl hnews h1 h63 hbytes (c := cm)
  have e1 := (opnd_ok (P := P) hA (fun g hg => by simp at hg) hs (by simp)).1
  have e2 := (opnd_ok (P := P) hA (fun g hg => by simp at hg) hx (by simp)).1
  refine pk_op o ho hg ?_ (hk b' c' w' q1 q2)
  simp only [execOp, hop, resolve, invoke, builtin, Sem.run_bind, Sem.run_pure, Result.andThen_ok, List.map_toArray, List.map_cons, List.map_nil, e1, e2, hrun]

/-- What follows inside a loop's round. -/
def kIn (body : Code) (lp p : List Nat) : List It := stackFrom (sub body (0 :: lp)) (0 :: lp) (p.take (p.length - (lp.length + 1))).reverse

/-! ### maps of numbers -/
def mEnt (l : List (Int × Nat)) : List MapEntry := l.map fun p => ⟨.int .i64 p.1, .bool true, p.2⟩
def mObj (l : List (Int × Nat)) (c : Nat) : Obj := .map (mEnt l).toArray c
def mHas (l : List (Int × Nat)) (k : Int) : Bool := l.any fun p => p.1 == k
def mPut (l : List (Int × Nat)) (c : Nat) (k : Int) : List (Int × Nat) := if mHas l k = true then l else l ++ [(k, c)]
def mClk (l : List (Int × Nat)) (c : Nat) (k : Int) : Nat := if mHas l k = true then c else c + 1

theorem mHas_iff {l : List (Int × Nat)} {k : Int} : mHas l k = true ↔ ∃ e ∈ mEnt l, e.key = .int .i64 k := by
  simp only [mHas, mEnt, List.any_eq_true, beq_iff_eq, List.mem_map]
  constructor
  · rintro ⟨p, h1, h2⟩
    exact ⟨_, ⟨p, h1, rfl⟩, by rw [h2]⟩
  · rintro ⟨_, ⟨p, h1, rfl⟩, h2⟩
    simp only [Value.int.injEq, true_and] at h2
    exact ⟨p, h1, h2⟩

theorem run_put {t kt et : TypeId} (ht : P.underlying t = some (.map kt et)) (hk : P.underlying kt = some (.int .i64)) {w : World} {b : Nat} {l : List (Int × Nat)} {c : Nat} {k : Int} (hb : w.heap[b]? = some (mObj l c)) :
    (Instr.mapUpdate t (.map (some b)) (.int .i64 k) (.bool true)).run P w = .ok () (setBlk w b (mObj (mPut l c k) (mClk l c k))) := by
  have hkey : MapKept.IsKey (.int .i64) (.int .i64 k) := rfl
  have hks : ∀ x ∈ mEnt l, MapKept.IsKey (.int .i64) x.key := by
    intro x hx
    simp only [mEnt, List.mem_map] at hx
    obtain ⟨p, _, rfl⟩ := hx
    rfl
  have hb' : w.heap[b]? = some (.map (mEnt l).toArray c) := hb
  rcases MapKept.findNow_spec hkey (mEnt l) 0 hks with ⟨h1, h2⟩ | ⟨j, e, h1, h2, h3⟩
  · have hno : ¬ mHas l k = true := by
      rw [mHas_iff]
      rintro ⟨e, he, hek⟩
      exact h2 e he hek
    simp only [Instr.mapUpdate, Sem.run_bind, run_underlying ht, MapKept.run_getObj_map hb', MapKept.run_checkKey hk hkey, MapKept.run_findKey hk h1, Result.andThen_ok, MapKept.run_setObj_map _ hb']
    unfold setBlk mPut mClk mObj
    rw [if_neg hno, if_neg hno]
    simp [mEnt]
  · have hyes : mHas l k = true := mHas_iff.2 ⟨e, List.mem_of_getElem? h2, h3⟩
    have hkt : MapKept.IsKey (.int .i64) (Value.int .i64 k) := rfl
    simp only [Instr.mapUpdate, Sem.run_bind, run_underlying ht, MapKept.run_getObj_map hb', MapKept.run_checkKey hk hkey, MapKept.run_findKey hk h1, Result.andThen_ok]
    have hj : ((((mEnt l).toArray)[0 + j]?).map (·.key)).getD (.int .i64 k) = .int .i64 k := by
      simp [h2, h3]
    rw [hj]
    simp only [MapKept.run_keyThatStays hkt, Result.andThen_ok, MapKept.run_setObj_map _ hb']
    have hsame : (mEnt l).toArray.modify (0 + j) (fun e => { e with key := .int .i64 k, val := .bool true }) = (mEnt l).toArray := by
      apply Array.ext_getElem?
      intro q
      rw [Array.getElem?_modify]
      split
      · rename_i hq
        rw [Nat.zero_add] at hq
        subst hq
        rw [List.getElem?_toArray, h2]
        simp only [Option.map_some, Option.some.injEq]
        have hm := List.mem_of_getElem? h2
        simp only [mEnt, List.mem_map] at hm
        obtain ⟨p, _, rfl⟩ := hm
        simp only at h3
        rw [h3]
      · rfl
    rw [hsame]
    unfold setBlk mPut mClk mObj
    rw [if_pos hyes, if_pos hyes]

theorem pk_put {fn : Func} {R : Ending → World → Prop} {body : Code} {p : List Nat} {i : Nat} {K : List It} {N : Nat} {fr : Fr} {a : Act} {w0 w : World} {D : List Nat} {F : List HE}
    (o : Oper) (x y : Operand) (t kt et : TypeId) {b c : Nat} {l : List (Int × Nat)} {k : Int} {tg tg' : Tag}
    (ho : nth (opsOf (sub body p)) i = some o) (hg : o.guard = none) (hop : o.op = .mapUpdate t x y (.const (.bool true))) (hA : Agrees N fr a)
    (hx : opnd fr none x = some (⟨.map (some b), tg⟩, [])) (hy : opnd fr none y = some (⟨.int .i64 k, tg'⟩, []))
    (ht : P.underlying t = some (.map kt et)) (hkt : P.underlying kt = some (.int .i64)) (hW : WI w0 D (⟨b, .other (mObj l c)⟩ :: F) w)
    (hk : ∀ w', WI w0 D (⟨b, .other (mObj (mPut l c k) (mClk l c k))⟩ :: F) w' → PK P fn R body (.ops p (i + 1) :: K) .normal (a.put o.dst undef) w') :
    PK P fn R body (.ops p i :: K) .normal a w := by
  have e1 := (opnd_ok (P := P) hA (fun g hg => by simp at hg) hx (by simp)).1
  have e2 := (opnd_ok (P := P) hA (fun g hg => by simp at hg) hy (by simp)).1
  have hb : w.heap[b]? = some (mObj l c) := hW.owns.1 ⟨b, .other (mObj l c)⟩ (by simp) rfl
  refine pk_op_skip o ho hg ?_ (hk _ (hW.set (o' := .other (mObj (mPut l c k) (mClk l c k))) rfl rfl))
  have e3 : a.eval (.const (.bool true)) = .bool true := rfl
  simp only [execOp, hop, e1, e2, e3, Sem.run_bind, run_put ht hkt hb, Result.andThen_ok, Sem.run_pure]
  rfl

theorem pk_len_map {fn : Func} {R : Ending → World → Prop} {body : Code} {p : List Nat} {i : Nat} {K : List It} {N : Nat} {fr : Fr} {a : Act} {w0 w : World} {D : List Nat} {F : List HE}
    (o : Oper) (x : Operand) (t kt et : TypeId) {b c : Nat} {l : List (Int × Nat)} {tg : Tag}
    (ho : nth (opsOf (sub body p)) i = some o) (hg : o.guard = none) (hop : o.op = .call ⟨.builtin .len, #[x], #[t]⟩) (hA : Agrees N fr a)
    (hx : opnd fr none x = some (⟨.map (some b), tg⟩, [])) (ht : P.underlying t = some (.map kt et)) (hW : WI w0 D (⟨b, .other (mObj l c)⟩ :: F) w)
    (hk : PK P fn R body (.ops p (i + 1) :: K) .normal (a.put o.dst (.int .i64 l.length)) w) :
    PK P fn R body (.ops p i :: K) .normal a w := by
  have e1 := (opnd_ok (P := P) hA (fun g hg => by simp at hg) hx (by simp)).1
  have hb : w.heap[b]? = some (.map (mEnt l).toArray c) := hW.owns.1 ⟨b, .other (mObj l c)⟩ (by simp) rfl
  refine pk_op o ho hg ?_ hk
  simp only [execOp, hop, resolve, invoke, builtin, Sem.run_bind, Sem.run_pure, Result.andThen_ok, List.map_toArray, List.map_cons, List.map_nil, e1, Builtin.len_]
  simp [run_underlying ht, MapKept.run_getObj_map hb, mEnt, goInt]

theorem pk_make {fn : Func} {R : Ending → World → Prop} {body : Code} {p : List Nat} {i : Nat} {K : List It} {N : Nat} {fr : Fr} {a : Act} {w0 w : World} {D : List Nat} {F : List HE}
    (o : Oper) (x y : Operand) (t e : TypeId) {z : Value} {size bytes n : Nat} {tg tg' : Tag}
    (ho : nth (opsOf (sub body p)) i = some o) (hg : o.guard = none) (hop : o.op = .makeSlice t x y) (hA : Agrees N fr a)
    (hx : opnd fr none x = some (⟨.int .i64 (n : Int), tg⟩, [])) (hy : opnd fr none y = some (⟨.int .i64 (n : Int), tg'⟩, []))
    (ht : P.underlying t = some (.slice e)) (hi : (P.info? e).map (fun i => (i.zero, i.size, i.bytes)) = some (some z, size, bytes)) (hzs : z.cells.size = size) (hn : n ≤ 1000) (hs : size ≤ 1000) (hb : bytes ≤ 100000)
    (hW : WI w0 D F w)
    (hk : ∀ b w', WI w0 D (F ++ [⟨b, .cells e [.op (padZ z n)]⟩]) w' → PK P fn R body (.ops p (i + 1) :: K) .normal (a.put o.dst (.slice (some ⟨b, 0, none⟩) n n)) w') :
    PK P fn R body (.ops p i :: K) .normal a w := by
  obtain ⟨inf, i1, i2, i3, i4⟩ := info_of hi
  have e1 := (opnd_ok (P := P) hA (fun g hg => by simp at hg) hx (by simp)).1
  have e2 := (opnd_ok (P := P) hA (fun g hg => by simp at hg) hy (by simp)).1
  have h1 : n * size ≤ 1000 * 1000 := Nat.mul_le_mul hn hs
  have h2 : bytes * n ≤ 100000 * 1000 := Nat.mul_le_mul hb hn
  have h3 : (inf.bytes : Int) * (n : Int) ≤ 281474976710656 := by
    rw [i4]
    have : ((bytes * n : Nat) : Int) ≤ 281474976710656 := by omega
    rwa [Int.natCast_mul] at this
  have hr := run_makeSlice (P := P) w t e inf z ht i1 i2 .i64 .i64 n n (by omega) (Int.le_refl _) (by rw [i3, Int.toNat_natCast]; omega) h3 (by omega)
  rw [i3, Int.toNat_natCast] at hr
  have he : (HO.cells e [.op (padZ z n)]).obj = .cells (madeCells z.cells (n * size)) e := by
    subst hzs
    have : (flat [.op (padZ z n)]).toArray = madeCells z.cells (n * z.cells.size) := by
      simp only [flat, Chunk.vals, padZ, Builtin.zeroCells, madeCells]
    simp only [HO.obj, this]
  refine pk_op o ho hg ?_ (hk w.heap.size (w.alloc (.cells (madeCells z.cells (n * size)) e)) ?_)
  · simp only [execOp, hop, e1, e2, Sem.run_bind, hr, Result.andThen_ok, Sem.run_pure]
  · rw [← he]
    exact hW.alloc.append_comm

/-! ### tags do not count -/
def SE.bare : SE → SE
  | .val x => .val ⟨x.v, .no⟩
  | .spec g x => .spec g ⟨x.v, .no⟩
  | e => e
def frBare : Fr → Fr
  | [] => []
  | (i, e) :: r => (i, e.bare) :: frBare r

theorem look_bare : ∀ (fr : Fr) (i : Nat), look (frBare fr) i = (look fr i).bare
  | [], i => rfl
  | (j, e) :: r, i => by
    simp only [frBare, look_cons, look_bare r i]
    split <;> rfl

theorem bare_holds {e : SE} {a : Act} {i : Nat} : e.bare.holds a i ↔ e.holds a i := by cases e <;> exact Iff.rfl

theorem Agrees.like {n : Nat} {fr fr' : Fr} {a : Act} (h : Agrees n fr a) (he : frBare fr = frBare fr') : Agrees n fr' a := by
  refine ⟨h.defers, h.size, fun i => ?_⟩
  have := h.slot i
  rw [← bare_holds, ← look_bare] at this ⊢
  rw [← he]
  exact this

/-- A call that turns what is known, met by its contract. -/
theorem pk_turn (hP : Fit P) {fn : Func} {R : Ending → World → Prop} {body : Code} {p : List Nat} {i : Nat} {K : List It} {n : Nat} {fr : Fr} {a : Act} {w0 w : World} {D : List Nat} {H H' F : List HE} {fid : FuncId} {fn' : Func} {b' : Code} {ys : List Value} {v : Value}
    (hc : Turns P H fid ys v H') (o : Oper) (f : Operand) (args : Array Operand) (ats : Array TypeId) (first cap : Array Value) (tg : Tag) (xs : List TV)
    (ho : nth (opsOf (sub body p)) i = some o) (hg : o.guard = none) (hop : o.op = .call ⟨.value f, args, ats⟩) (hA : Agrees n fr a)
    (hf : opnd fr none f = some (⟨.func (.func fid) first cap, tg⟩, [])) (hx : opnds fr none args.toList = some (xs, [])) (hfn : P.funcs[fid]? = some fn') (hb : fn'.body = some b')
    (hys : first.toList ++ valsOf xs ++ cap.toList = ys) (hW : WI w0 D (H ++ F) w)
    (hk : ∀ w', WI w0 D (H' ++ F) w' → PK P fn R body (.ops p (i + 1) :: K) .normal (a.put o.dst v) w') :
    PK P fn R body (.ops p i :: K) .normal a w := by
  refine pk_call hP o f args ats first cap tg xs ho hg hop hA hf hx hfn hb ?_
  rw [hys]
  refine (hc w hW.left).mono fun e w' h => ⟨v, h.1, hk w' (hW.call h.2)⟩

/-! ### what a run does not reach -/
theorem frame_far {w w' : World} {H F : List HE} (h : Owns w (H ++ F)) (hf : Far w (blocksOf H) w') : Owns w' F ∧ ∀ x ∈ blocksOf H, x ∉ blocksOf F := by
  have hn := h.2
  rw [blocksOf_append, List.nodup_append] at hn
  have hlt : ∀ b ∈ blocksOf F, b < w.heap.size := fun b hb => h.lt b (by rw [blocksOf_append]; exact List.mem_append_right _ hb)
  refine ⟨⟨fun e he hfull => ?_, hn.2.1⟩, fun x hx hxF => hn.2.2 x hx x hxF rfl⟩
  have hm := mem_blocks he hfull
  rw [hf.far e.b (hlt _ hm) (fun hx => hn.2.2 _ hx _ hm rfl)]
  exact h.1 e (List.mem_append_right _ he) hfull

def Beside (H F : List HE) (w : World) : Prop := Owns w F ∧ ∀ x ∈ blocksOf H, x ∉ blocksOf F

theorem Beside.owns {w : World} {H F : List HE} (h : Beside H F w) (hO : Owns w H) : Owns w (H ++ F) := by
  refine ⟨fun e he hf => ?_, ?_⟩
  · rcases List.mem_append.1 he with he | he
    · exact hO.1 e he hf
    · exact h.1.1 e he hf
  · rw [blocksOf_append, List.nodup_append]
    exact ⟨hO.2, h.1.2, fun x hx y hy hxy => h.2 x hx (hxy ▸ hy)⟩

theorem NewCall.beside {H F : List HE} {f : FuncId} {args : List Value} {v : Nat → Nat → Value} {o : Nat → Nat → HO} (h : NewCall P (H ++ F) f args v o) : NewCallC P (Beside H F) H f args v o :=
  fun w hB hO => h w (hB.owns hO)

theorem ReadCall.beside {H F : List HE} {f : FuncId} {args : List Value} {v : Value} (h : ReadCall P (H ++ F) f args v) : ReadCallC P (Beside H F) H f args v :=
  fun w hB hO => h w (hB.owns hO)
end Go.Proofs.Ytbbpmhbeohpmnaa.Rx
