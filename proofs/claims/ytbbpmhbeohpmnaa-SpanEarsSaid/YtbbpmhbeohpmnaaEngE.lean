/- The executor in use: a run that the kernel reckons, and what follows from it. -/
import Derived.Test.YtbbpmhbeohpmnaaEngD
namespace Go.Proofs.Ytbbpmhbeohpmnaa.Rx
open Go.RowKit
variable {P : Program} {Z : World → Prop}

/-- What a run shows. -/
inductive OutV where
  | ret (v : Value) (H : List (Nat × Obj))
  | stop (K : List It) (fr : Fr) (H : List HE)

structure View where
  ts : List Bool
  ds : List Bool
  ps : List Prop
  out : OutV

def pick {α : Type} : List Bool → List α → List α
  | [], _ => []
  | _, [] => []
  | b :: m, x :: l => bif b then x :: pick m l else pick m l

def facts : List HE → List (Nat × Obj)
  | [] => []
  | e :: r => match e.o with
    | .hole => facts r
    | o => (e.b, o.obj) :: facts r

def slots (fr : Fr) : List Nat → Fr
  | [] => []
  | i :: r => (i, look fr i) :: slots fr r

def viewOut (mask : List Bool) (sl : List Nat) : Out → OutV
  | .ret x s => .ret x.v (facts (pick mask s.H))
  | .stop K fr s => .stop K (slots fr sl) (pick mask s.H)

def fin1 (S : List TypeId) (mask : List Bool) (sl : List Nat) : Option (List Ob × Out) → Bool × List (Addr × Bool) × View
  | none => (false, [], ⟨[], [], [], .ret undef []⟩)
  | some r => (allIn S (safes r.1), synL r.1, ⟨tests r.1, truths r.1, props r.1, viewOut mask sl r.2⟩)

def synRof : Option (List Ob × Out) → List (Addr × Bool)
  | none => []
  | some r => synR r.1

def SafeAll (P : Program) (S : List TypeId) : Prop := ∀ t, memN t S = true → SafeEq P t

theorem all_iff : ∀ (l : List Prop), All l ↔ ∀ p ∈ l, p
  | [] => by simp [All]
  | [p] => ⟨fun h q hq => by rw [List.mem_singleton] at hq; subst hq; exact h, fun h => h p (by simp)⟩
  | p :: q :: r => by
    have := all_iff (q :: r)
    constructor
    · rintro ⟨h1, h2⟩ x hx
      rcases List.mem_cons.1 hx with rfl | hx
      · exact h1
      · exact this.1 h2 x hx
    · intro h
      exact ⟨h p (by simp), this.2 fun x hx => h x (List.mem_cons_of_mem _ hx)⟩

theorem obs_ok {S : List TypeId} (hS : SafeAll P S) : ∀ (obs : List Ob), allIn S (safes obs) = true → synL obs = synR obs → tests obs = truths obs → All (props obs) → ∀ o ∈ obs, o.ok P
  | [], _, _, _, _ => by simp
  | ob :: r, h1, h2, h3, h4 => by
    have ih := obs_ok hS r
    intro o ho
    cases ob with
    | addr a b =>
      simp only [synL, synR, List.cons.injEq, Prod.mk.injEq] at h2
      rcases List.mem_cons.1 ho with rfl | ho
      · exact h2.1.1
      · exact ih h1 h2.2 h3 h4 o ho
    | syn a b =>
      simp only [synL, synR, List.cons.injEq, Prod.mk.injEq] at h2
      rcases List.mem_cons.1 ho with rfl | ho
      · exact h2.1.2
      · exact ih h1 h2.2 h3 h4 o ho
    | bool a b =>
      simp only [tests, truths, List.cons.injEq] at h3
      rcases List.mem_cons.1 ho with rfl | ho
      · exact h3.1
      · exact ih h1 h2 h3.2 h4 o ho
    | prop p =>
      have h5 := (all_iff _).1 h4
      rcases List.mem_cons.1 ho with rfl | ho
      · exact h5 p (by simp [props])
      · exact ih h1 h2 h3 ((all_iff _).2 fun x hx => h5 x (by simp [props, hx])) o ho
    | safe t =>
      simp only [safes, allIn, Bool.and_eq_true] at h1
      rcases List.mem_cons.1 ho with rfl | ho
      · exact hS t h1.1
      · exact ih h1.2 h2 h3 h4 o ho

theorem pick_sub {α : Type} : ∀ (m : List Bool) (l : List α), (pick m l).Sublist l
  | [], l => by simp [pick]
  | b :: m, [] => by simp [pick]
  | b :: m, x :: l => by
    simp only [pick, cond_eq_ite]
    split
    · exact (pick_sub m l).cons_cons _
    · exact (pick_sub m l).cons _

theorem blocksOf_sub : ∀ {A B : List HE}, A.Sublist B → (blocksOf A).Sublist (blocksOf B) := by
  intro A B h
  induction h with
  | slnil => exact List.Sublist.refl _
  | cons a _ ih =>
    simp only [blocksOf]
    split
    · exact ih
    · exact ih.cons _
  | cons_cons a _ ih =>
    simp only [blocksOf]
    split
    · exact ih
    · exact ih.cons_cons _

theorem WI.sub {w0 w : World} {D : List Nat} {A B : List HE} (h : WI w0 D B w) (hs : A.Sublist B) : WI w0 D A w :=
  ⟨⟨fun e he hf => h.owns.1 e (hs.mem he) hf, h.owns.2.sublist (blocksOf_sub hs)⟩, h.os, h.tape, h.output, h.size, h.far, fun b hb => h.near b ((blocksOf_sub hs).mem hb)⟩

def FactsOk (w0 : World) (D : List Nat) (L : List (Nat × Obj)) (w : World) : Prop :=
  (∀ q ∈ L, w.heap[q.1]? = some q.2) ∧ (L.map (·.1)).Nodup ∧ ∀ q ∈ L, q.1 ∈ D ∨ w0.heap.size ≤ q.1

theorem facts_map : ∀ H : List HE, (facts H).map (·.1) = blocksOf H
  | [] => rfl
  | e :: r => by
    simp only [facts, blocksOf]
    cases e.o <;> simp [facts_map r]

theorem facts_mem : ∀ {H : List HE} {q : Nat × Obj}, q ∈ facts H → ∃ e ∈ H, e.o.full = true ∧ q = (e.b, e.o.obj)
  | [], q, h => by simp [facts] at h
  | e :: r, q, h => by
    simp only [facts] at h
    cases ho : e.o with
    | hole =>
      simp only [ho] at h
      obtain ⟨e', h1, h2⟩ := facts_mem h
      exact ⟨e', List.mem_cons_of_mem _ h1, h2⟩
    | cells ty cs =>
      simp only [ho, List.mem_cons] at h
      rcases h with rfl | h
      · exact ⟨e, by simp, by rw [ho]; rfl, by rw [ho]⟩
      · obtain ⟨e', h1, h2⟩ := facts_mem h
        exact ⟨e', List.mem_cons_of_mem _ h1, h2⟩
    | other o =>
      simp only [ho, List.mem_cons] at h
      rcases h with rfl | h
      · exact ⟨e, by simp, by rw [ho]; rfl, by rw [ho]⟩
      · obtain ⟨e', h1, h2⟩ := facts_mem h
        exact ⟨e', List.mem_cons_of_mem _ h1, h2⟩

theorem WI.facts {w0 w : World} {D : List Nat} {H : List HE} (h : WI w0 D H w) : FactsOk w0 D (facts H) w := by
  refine ⟨fun q hq => ?_, by rw [facts_map]; exact h.owns.2, fun q hq => ?_⟩
  · obtain ⟨e, h1, h2, rfl⟩ := facts_mem hq
    exact h.owns.1 e h1 h2
  · refine h.near q.1 ?_
    rw [← facts_map]
    exact List.mem_map_of_mem hq

theorem slots_look (fr : Fr) : ∀ (sl : List Nat) (i : Nat), look (slots fr sl) i = .junk ∨ look (slots fr sl) i = look fr i
  | [], i => .inl rfl
  | j :: r, i => by
    simp only [slots, look_cons]
    split
    · rename_i h; subst h; exact .inr rfl
    · exact slots_look fr r i

theorem Agrees.slots {n : Nat} {fr : Fr} {a : Act} (h : Agrees n fr a) (sl : List Nat) : Agrees n (slots fr sl) a := by
  refine ⟨h.defers, h.size, fun i => ?_⟩
  rcases slots_look fr sl i with e | e
  · rw [e]; trivial
  · rw [e]; exact h.slot i

theorem Owns.at {w : World} {H : List HE} (h : Owns w H) (i : Nat) {e : HE} (hn : nth H i = some e) (hf : e.o.full = true) : w.heap[e.b]? = some e.o.obj := h.1 e (mem_of_nth hn) hf

/-- Of one temporary alone. -/
theorem Agrees.only {n : Nat} {fr : Fr} {a : Act} (h : Agrees n fr a) (i : Nat) (se : SE) (hl : look fr i = se) : Agrees n [(i, se)] a := by
  refine ⟨h.defers, h.size, fun j => ?_⟩
  rw [look_cons]
  split
  · rename_i e; subst e; rw [← hl]; exact h.slot _
  · trivial

def OutV.ok (P : Program) (fn : Func) (R : Ending → World → Prop) (body : Code) (n : Nat) (w0 : World) (D : List Nat) : OutV → Prop
  | .ret v L => ∀ w, FactsOk w0 D L w → Far w0 D w → R (.returned v) w
  | .stop K fr H => ∀ a w, Agrees n fr a → WI w0 D H w → PK P fn R body K .normal a w

theorem view_ok {fn : Func} {R : Ending → World → Prop} {body : Code} {n : Nat} {w0 : World} {D : List Nat} {mask : List Bool} {sl : List Nat} {out : Out}
    (h : (viewOut mask sl out).ok P fn R body n w0 D) : OutOk P R w0 D fn body n out := by
  cases out with
  | ret x s => exact fun w hw => h w (hw.sub (pick_sub _ _)).facts hw.toFar
  | stop K fr s => exact fun a w hA hw => h a w (hA.slots sl) (hw.sub (pick_sub _ _))

def noZ : World → Prop := fun _ => True

/-- From here on the run shows it, Z held throughout. -/
theorem pk_runC (hP : Fit P) {S : List TypeId} (hS : SafeAll P S) {fn : Func} {R : Ending → World → Prop} {body : Code} {n : Nat} {w0 w : World} {D : List Nat} {a : Act}
    {K : List It} {fr : Fr} {H : List HE} (fuel : Nat) (hs : List Hint) (mask : List Bool) (sl : List Nat) (V : (Nat → Nat × Nat) → View)
    (hA : Agrees n fr a) (hW : WI w0 D H w) (hZ : ∀ w, Far w0 D w → Z w)
    (hrun : ∀ ν, fin1 S mask sl (run P Z ν fuel ⟨fn, body, n, K, fr⟩ [] ⟨H, 0, hs⟩ []) = (true, synRof (run P Z ν fuel ⟨fn, body, n, K, fr⟩ [] ⟨H, 0, hs⟩ []), V ν))
    (hts : ∀ ν, (V ν).ts = (V ν).ds) (hps : ∀ ν, All (V ν).ps) (hout : ∀ ν, (V ν).out.ok P fn R body n w0 D) :
    PK P fn R body K .normal a w := by
  refine run_sound (R := R) (w0 := w0) (D := D) (fn0 := fn) (body0 := body) (n0 := n) hP hZ fuel ⟨fn, body, n, K, fr⟩ [] ⟨H, 0, hs⟩ (fun _ => (0, 0)) a w R rfl hA hW ⟨rfl, rfl, rfl⟩ (fun ν _ => ?_)
  have h := hrun ν
  cases hr : run P Z ν fuel ⟨fn, body, n, K, fr⟩ [] ⟨H, 0, hs⟩ [] with
  | none => rw [hr] at h; simp [fin1] at h
  | some r =>
    obtain ⟨obs, out⟩ := r
    rw [hr] at h
    simp only [fin1, synRof, Prod.mk.injEq] at h
    obtain ⟨h1, h2, h3⟩ := h
    have e1 := hts ν
    have e2 := hps ν
    have e3 := hout ν
    rw [← h3] at e1 e2 e3
    exact ⟨obs, out, hr, obs_ok hS obs h1 h2 e1 e2, view_ok e3⟩

/-- From here on the run shows it. -/
theorem pk_run (hP : Fit P) {S : List TypeId} (hS : SafeAll P S) {fn : Func} {R : Ending → World → Prop} {body : Code} {n : Nat} {w0 w : World} {D : List Nat} {a : Act}
    {K : List It} {fr : Fr} {H : List HE} (fuel : Nat) (hs : List Hint) (mask : List Bool) (sl : List Nat) (V : (Nat → Nat × Nat) → View)
    (hA : Agrees n fr a) (hW : WI w0 D H w)
    (hrun : ∀ ν, fin1 S mask sl (run P noZ ν fuel ⟨fn, body, n, K, fr⟩ [] ⟨H, 0, hs⟩ []) = (true, synRof (run P noZ ν fuel ⟨fn, body, n, K, fr⟩ [] ⟨H, 0, hs⟩ []), V ν))
    (hts : ∀ ν, (V ν).ts = (V ν).ds) (hps : ∀ ν, All (V ν).ps) (hout : ∀ ν, (V ν).out.ok P fn R body n w0 D) :
    PK P fn R body K .normal a w :=
  pk_runC hP hS fuel hs mask sl V hA hW (fun _ _ => trivial) hrun hts hps hout

theorem WI.start {w : World} {H : List HE} (h : Owns w H) : WI w (blocksOf H) H w :=
  ⟨h, rfl, rfl, rfl, Nat.le_refl _, fun _ _ _ => rfl, fun _ hb => .inl hb⟩

theorem Owns.nil (w : World) : Owns w [] := ⟨fun e h => by simp at h, by simp [blocksOf]⟩

theorem WI.nil (w : World) : WI w [] [] w := WI.start (Owns.nil w)

/-- A call is entered. -/
theorem calls_pk {f : FuncId} {fn : Func} {body : Code} {ys : List TV} {w : World} {R : Ending → World → Prop} (hf : P.funcs[f]? = some fn) (hb : fn.body = some body)
    (h : ∀ a, Agrees (ys.length + (fn.ntmps - ys.length)) (enum 0 ys) a → PK P fn R body [.c []] .normal a w) : Calls P f (valsOf ys).toArray w R := by
  refine calls_of_wp hf hb ?_
  exact h _ Agrees.enum

/-- A call that one run shows. -/
theorem calls_run (hP : Fit P) {S : List TypeId} (hS : SafeAll P S) {f : FuncId} {fn : Func} {body : Code} (hf : P.funcs[f]? = some fn) (hb : fn.body = some body)
    {w : World} {R : Ending → World → Prop} (ys : List TV) (H : List HE) (fuel : Nat) (hs : List Hint) (mask : List Bool) (sl : List Nat) (V : (Nat → Nat × Nat) → View)
    (hO : Owns w H)
    (hrun : ∀ ν, fin1 S mask sl (run P noZ ν fuel ⟨fn, body, ys.length + (fn.ntmps - ys.length), [.c []], enum 0 ys⟩ [] ⟨H, 0, hs⟩ []) =
      (true, synRof (run P noZ ν fuel ⟨fn, body, ys.length + (fn.ntmps - ys.length), [.c []], enum 0 ys⟩ [] ⟨H, 0, hs⟩ []), V ν))
    (hts : ∀ ν, (V ν).ts = (V ν).ds) (hps : ∀ ν, All (V ν).ps) (hout : ∀ ν, (V ν).out.ok P fn R body (ys.length + (fn.ntmps - ys.length)) w (blocksOf H)) :
    Calls P f (valsOf ys).toArray w R :=
  calls_pk hf hb fun _ hA => pk_run hP hS fuel hs mask sl V hA (WI.start hO) hrun hts hps hout

theorem safe_mk {t : TypeId} (h1 : P.stoodInHeld t = false) (h2 : P.eqGuardType P.depth t = false)
    (h3 : ((match P.underlying t with | some (.struct fs) => fs.toList | _ => []).all fun f => !(f.name == "_")) = true) : SafeEq P t :=
  ⟨h1, h2, fun f hf => by simpa using List.all_eq_true.1 h3 f hf⟩

theorem Far.below {w0 w : World} (h : Far w0 [] w) : Below w0.heap.size w0 w :=
  ⟨h.os, h.tape, h.output, h.size, fun k hk => h.far k hk (by simp)⟩

/-- All that was known holds what it held. -/
theorem below_of {w0 w : World} {H : List HE} (h : Far w0 (blocksOf H) w) (hs : ∀ e ∈ H, w.heap[e.b]? = w0.heap[e.b]?) : Below w0.heap.size w0 w :=
  ⟨h.os, h.tape, h.output, h.size, fun k hk => by
    by_cases hm : k ∈ blocksOf H
    · have : ∃ e ∈ H, e.b = k := by
        clear h hs
        induction H with
        | nil => simp [blocksOf] at hm
        | cons d r ih =>
          simp only [blocksOf] at hm
          cases ho : d.o <;> simp only [ho] at hm
          · rcases List.mem_cons.1 hm with rfl | hm
            · exact ⟨d, by simp, rfl⟩
            · obtain ⟨e, h1, h2⟩ := ih hm
              exact ⟨e, List.mem_cons_of_mem _ h1, h2⟩
          · rcases List.mem_cons.1 hm with rfl | hm
            · exact ⟨d, by simp, rfl⟩
            · obtain ⟨e, h1, h2⟩ := ih hm
              exact ⟨e, List.mem_cons_of_mem _ h1, h2⟩
          · obtain ⟨e, h1, h2⟩ := ih hm
            exact ⟨e, List.mem_cons_of_mem _ h1, h2⟩
      obtain ⟨e, h1, rfl⟩ := this
      exact hs e h1
    · exact h.far k hk hm⟩

/-- A call that gives a value, and leaves nothing that counts. -/
theorem pure_run (hP : Fit P) {S : List TypeId} (hS : SafeAll P S) {f : FuncId} {fn : Func} {body : Code} (hf : P.funcs[f]? = some fn) (hb : fn.body = some body)
    (ys : List TV) (fuel : Nat) (hs : List Hint) (ts ds : List Bool) (ps : (Nat → Nat × Nat) → List Prop) {v : Value}
    (hrun : ∀ ν, fin1 S [] [] (run P noZ ν fuel ⟨fn, body, ys.length + (fn.ntmps - ys.length), [.c []], enum 0 ys⟩ [] ⟨[], 0, hs⟩ []) =
      (true, synRof (run P noZ ν fuel ⟨fn, body, ys.length + (fn.ntmps - ys.length), [.c []], enum 0 ys⟩ [] ⟨[], 0, hs⟩ []), ⟨ts, ds, ps ν, .ret v []⟩))
    (hts : ts = ds) (hps : ∀ ν, All (ps ν)) : PureCall P f (valsOf ys) v := fun w =>
  calls_run hP hS hf hb ys [] fuel hs [] [] (fun ν => ⟨ts, ds, ps ν, .ret v []⟩) ⟨by simp, by simp [blocksOf]⟩ hrun (fun _ => hts) hps (fun _ _ _ hfar => ⟨rfl, hfar.below⟩)

/-- The same of a call that reads what is known. -/
theorem read_run (hP : Fit P) {S : List TypeId} (hS : SafeAll P S) {f : FuncId} {fn : Func} {body : Code} (hf : P.funcs[f]? = some fn) (hb : fn.body = some body)
    (ys : List TV) (H : List HE) (fuel : Nat) (hs : List Hint) (mask : List Bool) (ts ds : List Bool) (ps : (Nat → Nat × Nat) → List Prop) {v : Value}
    (hrun : ∀ ν, fin1 S mask [] (run P noZ ν fuel ⟨fn, body, ys.length + (fn.ntmps - ys.length), [.c []], enum 0 ys⟩ [] ⟨H, 0, hs⟩ []) =
      (true, synRof (run P noZ ν fuel ⟨fn, body, ys.length + (fn.ntmps - ys.length), [.c []], enum 0 ys⟩ [] ⟨H, 0, hs⟩ []), ⟨ts, ds, ps ν, .ret v (facts H)⟩))
    (hts : ts = ds) (hps : ∀ ν, All (ps ν)) : ReadCall P H f (valsOf ys) v := fun w hO =>
  calls_run hP hS hf hb ys H fuel hs mask [] (fun ν => ⟨ts, ds, ps ν, .ret v (facts H)⟩) hO hrun (fun _ => hts) hps (fun _ w' hfact hfar => ⟨rfl, hfar.os, hfar.tape, hfar.output, hfar.size, fun k hk => by
    by_cases hm : k ∈ blocksOf H
    · have : ∃ o, (k, o) ∈ facts H := by
        rw [← facts_map] at hm
        obtain ⟨q, hq, rfl⟩ := List.mem_map.1 hm
        exact ⟨q.2, hq⟩
      obtain ⟨o, ho⟩ := this
      rw [hfact.1 _ ho]
      obtain ⟨e, h1, h2, h3⟩ := facts_mem ho
      simp only [Prod.mk.injEq] at h3
      rw [h3.1, h3.2]
      exact (hO.1 e h1 h2).symm
    · exact hfar.far k hk hm⟩)

def bodyOf (f : Func) : Code := match f.body with
  | some b => b
  | none => .skip

/-- What follows behind the code at a path. -/
def stackFrom : Code → List Nat → List Nat → List It
  | _, _, [] => []
  | .seq a _, path, 0 :: r => stackFrom a (0 :: path) r ++ [.c (1 :: path)]
  | .seq _ b, path, _ :: r => stackFrom b (1 :: path) r
  | .block id a, path, _ :: r => stackFrom a (0 :: path) r ++ [.blk id]
  | .cond _ a _, path, 0 :: r => stackFrom a (0 :: path) r
  | .cond _ _ b, path, _ :: r => stackFrom b (1 :: path) r
  | .loop a, path, _ :: r => stackFrom a (0 :: path) r
  | _, _, _ => []

def kAt (body : Code) (p : List Nat) : List It := .c p :: stackFrom body [] p.reverse

def kRest (body : Code) (p : List Nat) : List It := stackFrom body [] p.reverse

def HE.key (e : HE) : Nat × Obj × Bool := (e.b, e.o.obj, e.o.full)

theorem blocksOf_key : ∀ {A B : List HE}, A.map HE.key = B.map HE.key → blocksOf A = blocksOf B
  | [], [], _ => rfl
  | [], _ :: _, h => by simp at h
  | _ :: _, [], h => by simp at h
  | a :: A, b :: B, h => by
    simp only [List.map_cons, List.cons.injEq, HE.key, Prod.mk.injEq] at h
    obtain ⟨⟨h1, h2, h3⟩, h4⟩ := h
    have ih := blocksOf_key h4
    simp only [blocksOf]
    cases ha : a.o <;> cases hb : b.o <;> simp_all [HO.full]

theorem WI.same {w0 w : World} {D : List Nat} {A B : List HE} (h : WI w0 D A w) (hk : A.map HE.key = B.map HE.key) : WI w0 D B w := by
  refine ⟨⟨fun e he hf => ?_, by rw [← blocksOf_key hk]; exact h.owns.2⟩, h.os, h.tape, h.output, h.size, h.far, by rw [← blocksOf_key hk]; exact h.near⟩
  have : e.key ∈ A.map HE.key := by rw [hk]; exact List.mem_map_of_mem he
  obtain ⟨e', he', hk'⟩ := List.mem_map.1 this
  simp only [HE.key, Prod.mk.injEq] at hk'
  rw [← hk'.1, ← hk'.2.1]
  exact h.owns.1 e' he' (by rw [hk'.2.2]; exact hf)

theorem Owns.same {w : World} {A B : List HE} (h : Owns w A) (hk : A.map HE.key = B.map HE.key) : Owns w B := ((WI.start h).same hk).owns

theorem ReadCall.same {A B : List HE} {f : FuncId} {args : List Value} {v : Value} (h : ReadCall P A f args v) (hk : B.map HE.key = A.map HE.key) : ReadCall P B f args v :=
  fun w hO => h w (hO.same hk)

/-- A loop: what holds at each round's head, with a number that each round lowers. -/
theorem pk_loop {fn : Func} {R : Ending → World → Prop} {body : Code} {p : List Nat} {K : List It} {b : Code} (hc : sub body p = .loop b) (I : Nat → Act → World → Prop)
    (h : ∀ m a w, I m a w → ∀ T : Act → World → Prop, (∀ a w k, k < m → I k a w → T a w) → PK P fn R body (.c (0 :: p) :: .goal T :: K) .normal a w) :
    ∀ m a w, I m a w → PK P fn R body (.c p :: K) .normal a w := by
  intro m a w hI
  show (sub body p).wp P (PK P fn R body K) a w
  rw [hc]
  intro bb k cs
  have key : ∀ n a w, I n a w →
      ∃ e a' w', PK P fn R body K e a' w' ∧ Arrives P (lone (bb.at a (.code b :: .inLoop b :: k)) cs w) bb k cs e a' w' := by
    intro n
    induction n using Nat.strongRecOn with
    | _ n ih =>
      intro a w hI
      have hr := h n a w hI (fun a w => ∃ k, k < n ∧ I k a w) (fun a w k hk hI => ⟨k, hk, hI⟩)
      have hr' : (sub body (0 :: p)).wp P (PK P fn R body (.goal (fun a w => ∃ k, k < n ∧ I k a w) :: K)) a w := hr
      have e0 : sub body (0 :: p) = b := by simp [sub, hc, child]
      rw [e0] at hr'
      obtain ⟨e, a₁, w₁, hq, harr⟩ := hr' bb (.inLoop b :: k) cs
      cases e with
      | normal =>
        obtain ⟨m', hlt, hI₁⟩ := hq
        obtain ⟨e₂, a₂, w₂, hq₂, harr₂⟩ := ih m' hlt a₁ w₁ hI₁
        exact ⟨e₂, a₂, w₂, hq₂, .of_steps (Steps.trans harr (.one step_inLoop)) harr₂⟩
      | exit id => exact ⟨_, a₁, w₁, hq, .pass (x := .inLoop b) rfl (fun _ _ => .inl (by simp)) harr⟩
      | goto l => exact ⟨_, a₁, w₁, hq, .pass (x := .inLoop b) rfl (fun _ _ => .inl (by simp)) harr⟩
      | ret => exact ⟨_, a₁, w₁, hq, .pass (x := .inLoop b) rfl (fun _ _ => .inl (by simp)) harr⟩
      | panic ch => exact ⟨_, a₁, w₁, hq, .pass (x := .inLoop b) rfl (fun _ _ => .inl (by simp)) harr⟩
      | outgrown => exact ⟨_, a₁, w₁, hq, .pass (x := .inLoop b) rfl (fun _ _ => .inl (by simp)) harr⟩
  obtain ⟨e, a', w', hq, harr⟩ := key m a w hI
  exact ⟨e, a', w', hq, .of_steps (.one step_loop) harr⟩

/-- A call met by its contract. -/
theorem pk_call (hP : Fit P) {fn : Func} {R : Ending → World → Prop} {body : Code} {p : List Nat} {i : Nat} {K : List It} {n : Nat} {fr : Fr} {a : Act} {w : World} {fid : FuncId} {fn' : Func} {b' : Code}
    (o : Oper) (f : Operand) (args : Array Operand) (ats : Array TypeId) (first cap : Array Value) (tg : Tag) (xs : List TV)
    (ho : nth (opsOf (sub body p)) i = some o) (hg : o.guard = none) (hop : o.op = .call ⟨.value f, args, ats⟩) (hA : Agrees n fr a)
    (hf : opnd fr none f = some (⟨.func (.func fid) first cap, tg⟩, [])) (hx : opnds fr none args.toList = some (xs, [])) (hfn : P.funcs[fid]? = some fn') (hb : fn'.body = some b')
    (hc : Calls P fid (first.toList ++ valsOf xs ++ cap.toList).toArray w fun e w' => ∃ v, e = .returned v ∧ PK P fn R body (.ops p (i + 1) :: K) .normal (a.put o.dst v) w') :
    PK P fn R body (.ops p i :: K) .normal a w := by
  generalize hops : opsArr (sub body p) = ops
  have hl : opsOf (sub body p) = ops.toList := by rw [← hops, opsArr_toList]
  have hgoal : PK P fn R body (.ops p i :: K) .normal a w = wpList P ops (PK P fn R body K) (ops.toList.drop i) a w := by rw [← hops]; rfl
  have hgoal' : ∀ a w, PK P fn R body (.ops p (i + 1) :: K) .normal a w = wpList P ops (PK P fn R body K) (ops.toList.drop (i + 1)) a w := fun a w => by rw [← hops]; rfl
  rw [hl, nth_eq] at ho
  rw [hgoal, drop_cons ho]
  unfold wpList
  rw [if_pos (by simp [Region.wanted, hg])]
  left
  have hG : Gok none := fun g hg => by simp at hg
  have q1 := (opnd_ok (P := P) hA hG hf (by simp)).1
  have q2 := (opnds_ok (P := P) hA hG hx (by simp)).1
  have hrun : (execOp a.eval o).run P w = .ok (.enter fid (first.toList ++ valsOf xs ++ cap.toList).toArray) w := by
    simp only [execOp, hop, resolve, q1, Deferred.ofValue, Sem.run_bind, Sem.run_pure, Result.andThen_ok, invoke]
    rw [run_callFunc hP.names hfn hb]
    congr 2
    apply Array.ext'
    simp [← q2]
  unfold Oper.wp
  rw [hrun]
  refine hc.mono fun e w' ⟨v, he, hk⟩ => ?_
  subst he
  rw [hgoal'] at hk
  exact hk

/-- One operation, its run known. -/
theorem pk_op {fn : Func} {R : Ending → World → Prop} {body : Code} {p : List Nat} {i : Nat} {K : List It} {a : Act} {w w' : World} {v : Value}
    (o : Oper) (ho : nth (opsOf (sub body p)) i = some o) (hg : o.guard = none) (hrun : (execOp a.eval o).run P w = .ok (.value v) w')
    (hk : PK P fn R body (.ops p (i + 1) :: K) .normal (a.put o.dst v) w') : PK P fn R body (.ops p i :: K) .normal a w := by
  generalize hops : opsArr (sub body p) = ops
  have hl : opsOf (sub body p) = ops.toList := by rw [← hops, opsArr_toList]
  have hgoal : PK P fn R body (.ops p i :: K) .normal a w = wpList P ops (PK P fn R body K) (ops.toList.drop i) a w := by rw [← hops]; rfl
  have hgoal' : ∀ a w, PK P fn R body (.ops p (i + 1) :: K) .normal a w = wpList P ops (PK P fn R body K) (ops.toList.drop (i + 1)) a w := fun a w => by rw [← hops]; rfl
  rw [hl, nth_eq] at ho
  rw [hgoal, drop_cons ho]
  unfold wpList
  rw [if_pos (by simp [Region.wanted, hg])]
  left
  rw [hgoal'] at hk
  exact wp_value hrun hk

theorem pk_op_skip {fn : Func} {R : Ending → World → Prop} {body : Code} {p : List Nat} {i : Nat} {K : List It} {a : Act} {w w' : World}
    (o : Oper) (ho : nth (opsOf (sub body p)) i = some o) (hg : o.guard = none) (hrun : (execOp a.eval o).run P w = .ok .skip w')
    (hk : PK P fn R body (.ops p (i + 1) :: K) .normal (a.put o.dst undef) w') : PK P fn R body (.ops p i :: K) .normal a w := by
  generalize hops : opsArr (sub body p) = ops
  have hl : opsOf (sub body p) = ops.toList := by rw [← hops, opsArr_toList]
  have hgoal : PK P fn R body (.ops p i :: K) .normal a w = wpList P ops (PK P fn R body K) (ops.toList.drop i) a w := by rw [← hops]; rfl
  have hgoal' : ∀ a w, PK P fn R body (.ops p (i + 1) :: K) .normal a w = wpList P ops (PK P fn R body K) (ops.toList.drop (i + 1)) a w := fun a w => by rw [← hops]; rfl
  rw [hl, nth_eq] at ho
  rw [hgoal, drop_cons ho]
  unfold wpList
  rw [if_pos (by simp [Region.wanted, hg])]
  left
  rw [hgoal'] at hk
  exact wp_skip' hrun hk

/-- What an operation comes to hangs on its operands alone. -/
theorem exec_rho (P : Program) {n : Nat} {fr : Fr} {a : Act} {o : Oper} {xs : List TV} (hA : Agrees n fr a) (hsel : ∀ cs b, o.op ≠ .select cs b) (hx : opnds fr none o.op.operands.toList = some (xs, [])) :
    execOp a.eval o = execOp (rho fr) o := by
  have h := (opnds_ok (P := P) hA (fun g hg => by simp at hg) hx (by simp)).2
  exact (execOp_congr o hsel (fun x hx => h x (by simpa using hx))).symm

theorem WI.append_comm {w0 w : World} {D : List Nat} {A B : List HE} (h : WI w0 D (A ++ B) w) : WI w0 D (B ++ A) w := by
  refine ⟨⟨fun e he hf => h.owns.1 e (by simp only [List.mem_append] at he ⊢; exact he.symm) hf, ?_⟩, h.os, h.tape, h.output, h.size, h.far, fun b hb => h.near b (by rw [blocksOf_append] at hb ⊢; simp only [List.mem_append] at hb ⊢; exact hb.symm)⟩
  have := h.owns.2
  rw [blocksOf_append] at this ⊢
  exact (List.perm_append_comm.nodup_iff).1 this

/-- A contract's world, in a caller's. -/
theorem WI.call {w0 w w' : World} {D : List Nat} {H H' F : List HE} (h : WI w0 D (H ++ F) w) (hc : WI w (blocksOf H) H' w') : WI w0 D (H' ++ F) w' := by
  have hn := h.owns.2
  rw [blocksOf_append, List.nodup_append] at hn
  have hlt : ∀ b ∈ blocksOf H ++ blocksOf F, b < w.heap.size := fun b hb => h.owns.lt b (by rw [blocksOf_append]; exact hb)
  refine ⟨⟨fun e he hf => ?_, ?_⟩, hc.os.trans h.os, hc.tape.trans h.tape, hc.output.trans h.output, Nat.le_trans h.size hc.size, fun b hb hd => ?_, fun b hb => ?_⟩
  · rcases List.mem_append.1 he with he | he
    · exact hc.owns.1 e he hf
    · have hm := mem_blocks he hf
      rw [hc.far e.b (hlt _ (List.mem_append_right _ hm)) (fun hx => hn.2.2 _ hx _ hm rfl)]
      exact h.owns.1 e (List.mem_append_right _ he) hf
  · rw [blocksOf_append, List.nodup_append]
    refine ⟨hc.owns.2, hn.2.1, fun x hx y hy hxy => ?_⟩
    subst hxy
    rcases hc.near x hx with h1 | h1
    · exact hn.2.2 x h1 x hy rfl
    · have := hlt x (List.mem_append_right _ hy); omega
  · rw [hc.far b (Nat.lt_of_lt_of_le hb h.size) (fun hm => ?_)]
    · exact h.far b hb hd
    · rcases h.near b (by rw [blocksOf_append]; exact List.mem_append_left _ hm) with h1 | h1
      · exact hd h1
      · omega
  · rw [blocksOf_append] at hb
    rcases List.mem_append.1 hb with hb | hb
    · rcases hc.near b hb with h1 | h1
      · exact h.near b (by rw [blocksOf_append]; exact List.mem_append_left _ h1)
      · exact .inr (Nat.le_trans h.size h1)
    · exact h.near b (by rw [blocksOf_append]; exact List.mem_append_right _ hb)
end Go.Proofs.Ytbbpmhbeohpmnaa.Rx
