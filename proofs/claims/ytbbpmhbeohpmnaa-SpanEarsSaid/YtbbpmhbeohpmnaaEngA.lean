/- The executor is sound: whatever order a region takes. -/
import Derived.Test.YtbbpmhbeohpmnaaEng9
namespace Go.Proofs.Ytbbpmhbeohpmnaa.Rx
open Go.RowKit
variable {P : Program} {Z : World → Prop}

/-- What stands at a place of memory. -/
def fnOf (L : List HE) (x : Nat) : HE := (nth L x).getD hole

theorem fnOf_putAt : ∀ (L : List HE) (p : Nat) (h : HE) (x : Nat), fnOf (putAt L p h) x = if x = p then h else fnOf L x
  | [], 0, h, 0 => rfl
  | [], 0, h, x + 1 => by simp [fnOf, putAt, nth]
  | [], p + 1, h, 0 => by simp [fnOf, putAt, nth]
  | [], p + 1, h, x + 1 => by
    have := fnOf_putAt [] p h x
    simpa [fnOf, putAt, nth] using this
  | a :: l, 0, h, 0 => by simp [fnOf, putAt, nth]
  | a :: l, 0, h, x + 1 => by simp [fnOf, putAt, nth]
  | a :: l, p + 1, h, 0 => by simp [fnOf, putAt, nth]
  | a :: l, p + 1, h, x + 1 => by
    have := fnOf_putAt l p h x
    simpa [fnOf, putAt, nth] using this

theorem fnOf_maskL (ft : List Nat) : ∀ (L : List HE) (i x : Nat), fnOf (maskL ft i L) x = if i + x ∈ ft then fnOf L x else hole
  | [], i, x => by simp [fnOf, maskL, nth]
  | a :: l, i, 0 => by
    simp only [fnOf, maskL, nth, Option.getD_some, cond_eq_ite, memN_iff, Nat.add_zero]
  | a :: l, i, x + 1 => by
    have := fnOf_maskL ft l (i + 1) x
    rw [show i + (x + 1) = i + 1 + x by omega]
    simpa [fnOf, maskL, nth] using this

theorem fnOf_of_nth {L : List HE} {x : Nat} {e : HE} (h : nth L x = some e) : fnOf L x = e := by simp [fnOf, h]

theorem fnOf_full {L : List HE} {x : Nat} (h : (fnOf L x).o.full = true) : nth L x = some (fnOf L x) := by
  unfold fnOf at h ⊢
  cases hn : nth L x with
  | none => simp [hn, hole, HO.full] at h
  | some e => rfl

theorem mem_blocks_iff {b : Nat} : ∀ {L : List HE}, b ∈ blocksOf L ↔ ∃ x, (fnOf L x).o.full = true ∧ (fnOf L x).b = b
  | [] => by simp [blocksOf, fnOf, nth, hole, HO.full]
  | e :: l => by
    have ih := mem_blocks_iff (b := b) (L := l)
    have e0 : fnOf (e :: l) 0 = e := rfl
    have eS : ∀ x, fnOf (e :: l) (x + 1) = fnOf l x := fun x => rfl
    have key : b ∈ blocksOf (e :: l) ↔ (e.o.full = true ∧ e.b = b) ∨ b ∈ blocksOf l := by
      simp only [blocksOf]
      cases e.o <;> simp [HO.full, eq_comm]
    rw [key, ih]
    constructor
    · rintro (h | ⟨x, h⟩)
      · exact ⟨0, h⟩
      · exact ⟨x + 1, h⟩
    · rintro ⟨x, h⟩
      cases x with
      | zero => exact .inl h
      | succ x => exact .inr ⟨x, h⟩

theorem nodup_iff : ∀ {L : List HE}, (blocksOf L).Nodup ↔ ∀ x y, (fnOf L x).o.full = true → (fnOf L y).o.full = true → (fnOf L x).b = (fnOf L y).b → x = y
  | [] => by simp [blocksOf, fnOf, nth, hole, HO.full]
  | e :: l => by
    have ih := nodup_iff (L := l)
    have e0 : fnOf (e :: l) 0 = e := rfl
    have eS : ∀ x, fnOf (e :: l) (x + 1) = fnOf l x := fun x => rfl
    have key : (blocksOf (e :: l)).Nodup ↔ (e.o.full = true → e.b ∉ blocksOf l) ∧ (blocksOf l).Nodup := by
      simp only [blocksOf]
      cases e.o <;> simp [HO.full]
    rw [key, ih]
    constructor
    · rintro ⟨h1, h2⟩ x y hx hy hb
      cases x with
      | zero =>
        cases y with
        | zero => rfl
        | succ y => exact absurd (mem_blocks_iff.2 ⟨y, hy, hb.symm⟩) (h1 hx)
      | succ x =>
        cases y with
        | zero => exact absurd (mem_blocks_iff.2 ⟨x, hx, hb⟩) (h1 hy)
        | succ y => rw [h2 x y hx hy hb]
    · intro h
      refine ⟨fun hf hm => ?_, fun x y hx hy hb => ?_⟩
      · obtain ⟨x, h1, h2⟩ := mem_blocks_iff.1 hm
        have := h 0 (x + 1) hf h1 h2.symm
        omega
      · have := h (x + 1) (y + 1) hx hy hb
        omega

theorem nth_of_mem {L : List HE} {e : HE} (h : e ∈ L) : ∃ x, nth L x = some e := by
  obtain ⟨x, hx⟩ := List.mem_iff_getElem?.1 h
  exact ⟨x, by rw [nth_eq]; exact hx⟩

/-- The world, place by place. -/
structure WIf (w0 : World) (D : List Nat) (c : Nat → HE) (w : World) : Prop where
  full : ∀ x, (c x).o.full = true → w.heap[(c x).b]? = some (c x).o.obj
  apart : ∀ x y, (c x).o.full = true → (c y).o.full = true → (c x).b = (c y).b → x = y
  os : w.os = w0.os
  tape : w.tape = w0.tape
  output : w.output = w0.output
  size : w0.heap.size ≤ w.heap.size
  far : ∀ b, b < w0.heap.size → b ∉ D → w.heap[b]? = w0.heap[b]?
  near : ∀ x, (c x).o.full = true → (c x).b ∈ D ∨ w0.heap.size ≤ (c x).b

theorem WIf.congr {w0 w : World} {D : List Nat} {c c' : Nat → HE} (h : WIf w0 D c w) (hc : ∀ x, c' x = c x) : WIf w0 D c' w := by
  have : c' = c := funext hc
  subst this
  exact h

theorem owns_iff {w : World} {L : List HE} : Owns w L ↔ (∀ x, (fnOf L x).o.full = true → w.heap[(fnOf L x).b]? = some (fnOf L x).o.obj) ∧ (blocksOf L).Nodup := by
  refine and_congr_left fun _ => ⟨fun h x hx => h _ (mem_of_nth (fnOf_full hx)) hx, fun h e he hf => ?_⟩
  obtain ⟨x, hx⟩ := nth_of_mem he
  have := h x (by rw [fnOf_of_nth hx]; exact hf)
  rwa [fnOf_of_nth hx] at this

theorem WI.toF {w0 w : World} {D : List Nat} {H : List HE} (h : WI w0 D H w) : WIf w0 D (fnOf H) w :=
  ⟨(owns_iff.1 h.owns).1, nodup_iff.1 h.owns.2, h.os, h.tape, h.output, h.size, h.far, fun x hx => h.near _ (mem_blocks_iff.2 ⟨x, hx, rfl⟩)⟩

theorem WIf.toL {w0 w : World} {D : List Nat} {H : List HE} (h : WIf w0 D (fnOf H) w) : WI w0 D H w :=
  ⟨owns_iff.2 ⟨h.full, nodup_iff.2 h.apart⟩, h.os, h.tape, h.output, h.size, h.far, fun b hb => by
    obtain ⟨x, h1, rfl⟩ := mem_blocks_iff.1 hb
    exact h.near x h1⟩

theorem WIf.owns {w0 w : World} {D : List Nat} {c : Nat → HE} {L : List HE} (h : WIf w0 D c w) (hL : ∀ x, (fnOf L x).o.full = true → fnOf L x = c x) : Owns w L := by
  refine owns_iff.2 ⟨fun x hx => ?_, nodup_iff.2 fun x y hx hy hb => ?_⟩
  · rw [hL x hx]
    exact h.full x (hL x hx ▸ hx)
  · rw [hL x hx, hL y hy] at hb
    exact h.apart x y (hL x hx ▸ hx) (hL y hy ▸ hy) hb

theorem WIf.lt {w0 w : World} {D : List Nat} {c : Nat → HE} (h : WIf w0 D c w) {x : Nat} (hx : (c x).o.full = true) : (c x).b < w.heap.size := lt_of_some (h.full x hx)

theorem WIf.below {w0 w w' : World} {D : List Nat} {c : Nat → HE} (h : WIf w0 D c w) (hb : Below w.heap.size w w') : WIf w0 D c w' :=
  ⟨fun x hx => by rw [hb.block _ (h.lt hx)]; exact h.full x hx, h.apart, hb.os.trans h.os, hb.tape.trans h.tape, hb.output.trans h.output, Nat.le_trans h.size hb.size,
    fun b h1 h2 => by rw [hb.block b (Nat.lt_of_lt_of_le h1 h.size)]; exact h.far b h1 h2, h.near⟩

/-- A new block is laid to a place. -/
theorem WIf.fill {w0 w w' : World} {D : List Nat} {c c' : Nat → HE} {p b : Nat} {o : HO} (h : WIf w0 D c w) (hb : Below w.heap.size w w') (h1 : w.heap.size ≤ b) (h2 : w'.heap[b]? = some o.obj)
    (hc : ∀ x, x ≠ p → c' x = c x) (hp : c' p = ⟨b, o⟩) : WIf w0 D c' w' := by
  have h' := h.below hb
  refine ⟨fun x hx => ?_, fun x y hx hy he => ?_, h'.os, h'.tape, h'.output, h'.size, h'.far, fun x hx => ?_⟩
  · by_cases hxp : x = p
    · subst hxp; rw [hp]; exact h2
    · rw [hc x hxp] at hx ⊢; exact h'.full x hx
  · by_cases hxp : x = p
    · by_cases hyp : y = p
      · rw [hxp, hyp]
      · exfalso
        rw [hc y hyp] at hy he
        rw [hxp, hp] at he
        have := h.lt hy
        simp only at he
        omega
    · by_cases hyp : y = p
      · exfalso
        rw [hc x hxp] at hx he
        rw [hyp, hp] at he
        have := h.lt hx
        simp only at he
        omega
      · rw [hc x hxp] at hx he
        rw [hc y hyp] at hy he
        exact h.apart x y hx hy he
  · by_cases hxp : x = p
    · subst hxp; rw [hp]; exact .inr (Nat.le_trans h.size h1)
    · rw [hc x hxp] at hx ⊢; exact h.near x hx

/-- What stands at a place is turned. -/
theorem WIf.store {w0 w w' : World} {D : List Nat} {c c' : Nat → HE} {p : Nat} {e : HE} (h : WIf w0 D c w) (hf : (c p).o.full = true) (heb : e.b = (c p).b)
    (hos : w'.os = w.os) (htape : w'.tape = w.tape) (hout : w'.output = w.output) (hsz : w.heap.size ≤ w'.heap.size) (hfar : ∀ k, k < w.heap.size → k ≠ e.b → w'.heap[k]? = w.heap[k]?) (hat : w'.heap[e.b]? = some e.o.obj)
    (hc : ∀ x, x ≠ p → c' x = c x) (hp : c' p = e) : WIf w0 D c' w' := by
  have hbb : ∀ x, (c' x).o.full = true → (c x).o.full = true ∧ (c' x).b = (c x).b := by
    intro x hx
    by_cases hxp : x = p
    · subst hxp; exact ⟨hf, by rw [hp, heb]⟩
    · rw [hc x hxp] at hx ⊢; exact ⟨hx, rfl⟩
  refine ⟨fun x hx => ?_, fun x y hx hy he => ?_, hos.trans h.os, htape.trans h.tape, hout.trans h.output, Nat.le_trans h.size hsz, fun b h1 h2 => ?_, fun x hx => ?_⟩
  · by_cases hxp : x = p
    · subst hxp; rw [hp]; exact hat
    · rw [hc x hxp] at hx ⊢
      rw [hfar _ (h.lt hx) (fun he => hxp (h.apart x p hx hf (he.trans heb)))]
      exact h.full x hx
  · obtain ⟨a1, a2⟩ := hbb x hx
    obtain ⟨b1, b2⟩ := hbb y hy
    exact h.apart x y a1 b1 (by rw [← a2, ← b2, he])
  · rw [hfar b (Nat.lt_of_lt_of_le h1 h.size) (fun he => ?_)]
    · exact h.far b h1 h2
    · rcases h.near p hf with h' | h'
      · exact h2 (by rw [he, heb]; exact h')
      · rw [he, heb] at h1; omega
  · obtain ⟨a1, a2⟩ := hbb x hx
    rw [a2]
    exact h.near x a1

/-! ### what has been put where -/
def notAt (wr : Option (Nat × HE)) (x : Nat) : Prop := ∀ h, wr ≠ some (x, h)

theorem fnOf_wr (wr : Option (Nat × HE)) (L : List HE) (x : Nat) : notAt wr x → fnOf (match wr with | some (pos, h) => putAt L pos h | none => L) x = fnOf L x := by
  intro h
  cases wr with
  | none => rfl
  | some y =>
    obtain ⟨pos, e⟩ := y
    simp only [fnOf_putAt]
    rw [if_neg (fun he => h e (by rw [he]))]

theorem curL_at {p p' : Nat → Bool} {x : Nat} : ∀ (es es' : List En) (L L' : List HE), es.length = es'.length → fnOf L x = fnOf L' x →
    (∀ (q : Nat) (e e' : En), es[q]? = some e → es'[q]? = some e' → (p e.i = true ∧ p' e'.i = true ∧ e.wr = e'.wr) ∨ ((p e.i = true → notAt e.wr x) ∧ (p' e'.i = true → notAt e'.wr x))) →
    fnOf (curL p es L) x = fnOf (curL p' es' L') x
  | [], [], _, _, _, h0, _ => h0
  | [], _ :: _, _, _, h, _, _ => by simp at h
  | _ :: _, [], _, _, h, _, _ => by simp at h
  | e :: r, e' :: r', L, L', hl, h0, h => by
    simp only [curL]
    refine curL_at r r' _ _ (by simpa using hl) ?_ (fun q a b ha hb => h (q + 1) a b (by simpa using ha) (by simpa using hb))
    rcases h 0 e e' (by simp) (by simp) with ⟨h1, h2, h3⟩ | ⟨h1, h2⟩
    · rw [h1, h2, h3]
      simp only [cond_true]
      cases e'.wr with
      | none => exact h0
      | some y => obtain ⟨pos, he⟩ := y; simp only [fnOf_putAt, h0]
    · have k1 : fnOf (bif p e.i then (match e.wr with | some (pos, h) => putAt L pos h | none => L) else L) x = fnOf L x := by
        cases hp : p e.i with
        | true => exact fnOf_wr e.wr L x (h1 hp)
        | false => rfl
      have k2 : fnOf (bif p' e'.i then (match e'.wr with | some (pos, h) => putAt L' pos h | none => L') else L') x = fnOf L' x := by
        cases hp : p' e'.i with
        | true => exact fnOf_wr e'.wr L' x (h2 hp)
        | false => rfl
      exact (k1.trans h0).trans k2.symm

theorem curL_append (p : Nat → Bool) : ∀ (a b : List En) (L : List HE), curL p (a ++ b) L = curL p b (curL p a L)
  | [], _, _ => rfl
  | e :: r, b, L => by simp only [List.cons_append, curL, curL_append p r b]

theorem curL_none {p : Nat → Bool} : ∀ (es : List En) (L : List HE), (∀ e ∈ es, p e.i = false) → curL p es L = L
  | [], _, _ => rfl
  | e :: r, L, h => by simp only [curL, h e (by simp), cond_false, curL_none r L (fun e' he => h e' (List.mem_cons_of_mem _ he))]

theorem curL_keep {p : Nat → Bool} {x : Nat} (es : List En) (L : List HE) (h : ∀ e ∈ es, p e.i = true → notAt e.wr x) : fnOf (curL p es L) x = fnOf L x := by
  have : fnOf L x = fnOf (curL (fun _ => false) es L) x := by rw [curL_none es L (fun _ _ => rfl)]
  rw [this]
  refine curL_at es es L L rfl rfl fun q e e' h1 h2 => .inr ⟨fun hp => h e (List.mem_of_getElem? h1) hp, fun hp => by simp at hp⟩

/-- The last that puts something there. -/
theorem curL_last {p : Nat → Bool} {x : Nat} {a b : List En} {e : En} {h : HE} {L : List HE} (hp : p e.i = true) (hw : e.wr = some (x, h)) (hb : ∀ e ∈ b, p e.i = true → notAt e.wr x) :
    fnOf (curL p (a ++ e :: b) L) x = h := by
  rw [curL_append]
  simp only [curL, hp, cond_true, hw]
  rw [curL_keep b _ hb, fnOf_putAt, if_pos rfl]

theorem storeAt_form {s s' : St} {t : TypeId} {x y : TV} {ob : List Ob} (h : storeAt P s t x y = some (s', ob)) :
    ∃ pos ch off e ty cs, x.t = .loc pos ch off ∧ nth s.H pos = some e ∧ e.o.full = true ∧ s'.H = setNth s.H pos ⟨e.b, .cells ty cs⟩ := by
  unfold storeAt at h
  split at h
  · split at h
    · rename_i pos ch off ht
      split at h
      · rename_i p i hp hi
        obtain ⟨h1, h2, h3, h4⟩ := place_ok hp
        rw [cond_eq_ite] at h
        split at h
        · simp only [Option.some.injEq, Prod.mk.injEq] at h
          obtain ⟨rfl, _⟩ := h
          exact ⟨pos, ch, off, p.e, _, _, ht, h1, by rw [h2]; rfl, rfl⟩
        · simp at h
      · simp at h
    · simp at h
  · simp at h

theorem nth_setNth {α : Type} : ∀ {l : List α} {i : Nat} {x y : α}, nth l i = some y → nth (setNth l i x) i = some x
  | [], i, x, y, h => by simp [nth] at h
  | a :: l, 0, x, y, h => rfl
  | a :: l, i + 1, x, y, h => nth_setNth (l := l) (i := i) h

theorem rd_store {hs : List Hint} {o : Oper} {t : TypeId} {x y : Operand} (hop : o.op = .store t x y) : rdHint hs o.op = none := by
  rw [hop]
  unfold rdHint
  split <;> rfl

theorem as_store {hs : List Hint} {o : Oper} {t : TypeId} {x y : Operand} (hop : o.op = .store t x y) : asHint hs o.op = none := by
  rw [hop]
  unfold asHint
  split
  · rfl
  · rfl

theorem sk_store {hs : List Hint} {o : Oper} {t : TypeId} {x y : Operand} (hop : o.op = .store t x y) : skTail hs o.op = hs := by
  rw [hop]
  unfold skTail
  split <;> rfl

theorem evalStore_form {fr : Fr} {G : Option Bool} {t : TypeId} {x y : Operand} {s : St} {r : OR} (hs : List Hint) (h : evalStore P fr G t x y s = some r) :
    ∃ pos e h', footOf fr G hs (.store t x y) = [pos] ∧ nth s.H pos = some e ∧ e.o.full = true ∧ nth r.H pos = some h' ∧ h'.b = e.b ∧ h'.o.full = true := by
  unfold evalStore at h
  split at h
  · rename_i a o1 z o2 h1 h2
    split at h
    · rename_i s' o3 h3
      simp only [Option.some.injEq] at h
      subst h
      obtain ⟨pos, ch, off, e, ty, cs, k1, k2, k3, k4⟩ := storeAt_form h3
      refine ⟨pos, e, ⟨e.b, .cells ty cs⟩, ?_, k2, k3, ?_, rfl, rfl⟩
      · have : rdHint hs (.store t x y) = none := rd_store (o := { (default : Oper) with op := .store t x y }) rfl
        simp only [footOf, this, footOf0, tagOp, h1, k1, tagPos]
      · simp only [k4]
        exact nth_setNth k2
    · simp at h
  · simp at h

/-- What an operation of a region turns. -/
theorem eff_mem {w0 w w' : World} {D : List Nat} {c0 : Nat → HE} {fr : Fr} {G : Option Bool} {o : Oper} {L0 : List HE} {c pos : Nat} {hs : List Hint} {b : Nat × Nat} {r : OR} (h : WIf w0 D c0 w)
    (hL : ∀ x, x ∈ footOf fr G hs o.op → fnOf L0 x = c0 x) (hr : evalOp P Z b fr G o ⟨maskL (footOf fr G hs o.op) 0 L0, c, hs⟩ pos = some r) (hE : Eff o.op w w' (maskL (footOf fr G hs o.op) 0 L0) b r)
    (c1 : Nat → HE) (h1 : ∀ x, notAt (wrOf b.1 pos (footOf fr G hs o.op) o.op r) x → c1 x = c0 x) (h2 : ∀ x h, wrOf b.1 pos (footOf fr G hs o.op) o.op r = some (x, h) → c1 x = h) : WIf w0 D c1 w' := by
  cases hst : isStore o.op with
  | false =>
    have hw : wrOf b.1 pos (footOf fr G hs o.op) o.op r = match r.nw with | some ho => some (pos, ⟨b.1, ho⟩) | none => none := by
      unfold wrOf; rw [hst]; rfl
    cases hn : r.nw with
    | none =>
      rw [hw, hn] at h1
      exact (h.below (hE.keep hst).1).congr (fun x => h1 x (fun _ => by simp))
    | some ho =>
      rw [hw, hn] at h1 h2
      obtain ⟨n1, n2⟩ := hE.nw ho hn
      exact h.fill (p := pos) (hE.keep hst).1 n1 n2 (fun x hx => h1 x (fun h' he => by simp at he; exact hx he.1.symm)) (h2 _ _ rfl)
  | true =>
    unfold isStore at hst
    split at hst
    · rename_i t x y hop
      have hr' : evalStore P fr G t x y ⟨maskL (footOf fr G hs o.op) 0 L0, c, hs⟩ = some r := by
        unfold evalOp at hr
        rw [rd_store hop, as_store hop] at hr
        simp only [sk_store hop] at hr
        unfold evalOp0 at hr
        rw [hop] at hr
        simpa only [hop] using hr
      obtain ⟨p, e, e', k1, k2, k3, k4, k5, k6⟩ := evalStore_form hs hr'
      have hw : wrOf b.1 pos (footOf fr G hs o.op) o.op r = some (p, e') := by
        unfold wrOf
        rw [hop]
        simp only [isStore, cond_true, k1, k4]
      rw [hw] at h1 h2
      have hp := h2 _ _ rfl
      have hmk : ∀ x, fnOf (maskL (footOf fr G hs o.op) 0 L0) x = if x ∈ footOf fr G hs o.op then fnOf L0 x else hole := fun x => by rw [fnOf_maskL, Nat.zero_add]
      have hpm : p ∈ footOf fr G hs o.op := by rw [hop, k1]; simp
      have he : e = c0 p := by
        have := fnOf_of_nth k2
        rw [hmk, if_pos hpm, hL p hpm] at this
        exact this.symm
      have hbl : ∀ k, k ∈ blocksOf (maskL (footOf fr G hs o.op) 0 L0) → k = e'.b := by
        intro k hk
        obtain ⟨x, g1, g2⟩ := mem_blocks_iff.1 hk
        rw [hmk] at g1 g2
        split at g1
        · rename_i hx
          rw [if_pos hx] at g2
          rw [hop, k1] at hx
          simp only [List.mem_singleton] at hx
          subst hx
          rw [hL x hpm, ← he] at g2
          rw [← g2, k5]
        · simp [hole, HO.full] at g1
      refine h.store (p := p) (e := e') (he ▸ k3) (by rw [k5, he]) hE.turn.os hE.turn.tape hE.turn.output hE.turn.size (fun k hk hne => hE.turn.far k hk (fun hm => hne (hbl k hm))) (hE.turn.owns.1 e' (mem_of_nth k4) k6)
        (fun x hx => h1 x (fun h' he => by simp at he; exact hx he.1.symm)) hp
    · simp at hst

theorem nodup_dsts : ∀ {l : List Oper} {j k : Nat} {o o' : Oper} {d : Nat}, nodupN (dstsOf l) = true → l[j]? = some o → l[k]? = some o' → o.dst = some d → o'.dst = some d → j = k := by
  have memN_iff : ∀ (d : Nat) (l : List Nat), memN d l = true ↔ d ∈ l := by
    intro d l
    induction l with
    | nil => simp [memN]
    | cons a r ih => simp [memN, ih]
  have mem : ∀ {l : List Oper} {k : Nat} {o : Oper} {d : Nat}, l[k]? = some o → o.dst = some d → d ∈ dstsOf l := by
    intro l
    induction l with
    | nil => intro k o d h; simp at h
    | cons a r ih =>
      intro k o d h hd
      cases k with
      | zero =>
        simp only [List.getElem?_cons_zero, Option.some.injEq] at h
        subst h
        simp [dstsOf, hd]
      | succ k =>
        have := ih (k := k) (by simpa using h) hd
        simp only [dstsOf]
        cases a.dst <;> simp [this]
  intro l
  induction l with
  | nil => intro j k o o' d _ h; simp at h
  | cons a r ih =>
    intro j k o o' d hn h1 h2 d1 d2
    have hn' : nodupN (dstsOf r) = true := by
      simp only [dstsOf] at hn
      cases had : a.dst with
      | none => simpa [had] using hn
      | some x => simp only [had, nodupN, Bool.and_eq_true] at hn; exact hn.2
    cases j with
    | zero =>
      cases k with
      | zero => rfl
      | succ k =>
        simp only [List.getElem?_cons_zero, Option.some.injEq] at h1
        subst h1
        have := mem (l := r) (k := k) (by simpa using h2) d2
        simp only [dstsOf, d1, nodupN, Bool.and_eq_true, Bool.not_eq_true'] at hn
        rw [← memN_iff] at this
        rw [this] at hn
        simp at hn
    | succ j =>
      cases k with
      | zero =>
        simp only [List.getElem?_cons_zero, Option.some.injEq] at h2
        subst h2
        have := mem (l := r) (k := j) (by simpa using h1) d1
        simp only [dstsOf, d2, nodupN, Bool.and_eq_true, Bool.not_eq_true'] at hn
        rw [← memN_iff] at this
        rw [this] at hn
        simp at hn
      | succ k => have e := ih (j := j) (k := k) (o := o) (o' := o') (d := d) hn' (by simpa using h1) (by simpa using h2) d1 d2; omega

theorem mem_ready {ops : Array Oper} {listed : Array Bool} {i : Nat} : i ∈ Region.ready .any ops listed ↔
    ∃ o, ops[i]? = some o ∧ listed.getD i true = false ∧ ∀ e ∈ o.after.toList, Region.binds .any e = true → listed.getD e.on false = true := by
  unfold Region.ready
  simp only [List.mem_filter, List.mem_range, Bool.and_eq_true, Bool.not_eq_true']
  constructor
  · rintro ⟨h1, h2, h3⟩
    refine ⟨ops[i], by simp [h1], h2, fun e he hb => ?_⟩
    simp only [h1, getElem?_pos, Option.map_some, Option.getD_some, Array.all_eq_true'] at h3
    have := h3 e (by simpa using he)
    simpa [hb] using this
  · rintro ⟨o, h1, h2, h3⟩
    have hi : i < ops.size := by
      rcases Nat.lt_or_ge i ops.size with h | h
      · exact h
      · simp [Array.getElem?_eq_none h] at h1
    refine ⟨hi, h2, ?_⟩
    simp only [h1, Option.map_some, Option.getD_some, Array.all_eq_true']
    intro e he
    cases hb : Region.binds .any e with
    | false => simp
    | true => simpa using h3 e (by simpa using he) hb

theorem alone_spec {bef : List Nat} {i m : Nat} (h : alone bef i = true) (hm : bef[i]? = some m) :
    (∀ j, j < i → m.testBit j = true) ∧ ∀ k m', i < k → bef[k]? = some m' → m'.testBit i = true := by
  unfold alone at h
  rw [nth_eq, hm] at h
  simp only [Bool.and_eq_true, Nat.beq_eq] at h
  obtain ⟨h1, h2⟩ := h
  refine ⟨fun j hj => by rw [h1]; simp [Nat.testBit_two_pow_sub_one, hj], fun k m' hk hm' => ?_⟩
  have key : ∀ (l : List Nat) (q x : Nat), allBit i l = true → l[q]? = some x → x.testBit i = true := by
    intro l
    induction l with
    | nil => intro q x _ h; simp at h
    | cons a r ih =>
      intro q x ha hx
      simp only [allBit, Bool.and_eq_true] at ha
      cases q with
      | zero => simp only [List.getElem?_cons_zero, Option.some.injEq] at hx; subst hx; exact ha.1
      | succ q => exact ih q x ha.2 (by simpa using hx)
  refine key _ (k - (i + 1)) m' h2 ?_
  rw [List.getElem?_drop, show i + 1 + (k - (i + 1)) = k by omega]
  exact hm'

theorem upTo_get (n i j : Nat) (b : Bool) : (upTo n i).getD j b = if j < n then decide (j < i) else b := by
  unfold upTo
  rw [Array.getD_eq_getD_getElem?, List.getElem?_toArray, List.getElem?_map]
  by_cases h : j < n
  · simp [h]
  · simp [h]

theorem upTo_size (n i : Nat) : (upTo n i).size = n := by simp [upTo]

theorem listed_ext {a b : Array Bool} (h : a.size = b.size) (hg : ∀ j, j < a.size → a.getD j true = b.getD j true) : a = b := by
  apply Array.ext h
  intro j h1 h2
  have := hg j h1
  simpa [Array.getD_eq_getD_getElem?, h1, h2] using this

/-- The next operation that stands alone is the only one that may come up. -/
theorem wpAny_alone {ops : Array Oper} {Q : Exit → Act → World → Prop} {i : Nat} {a : Act} {w : World} (hM : Masks ops.toList (befOf ops.toList)) (hi : i < ops.size) (ha : alone (befOf ops.toList) i = true)
    (h : wpOp P ops Q i (wpAny P .any ops Q (ops.size - (i + 1)) (upTo ops.size (i + 1))) a w) : wpAny P .any ops Q (ops.size - i) (upTo ops.size i) a w := by
  have hl : i < ops.toList.length := by simpa using hi
  have hbl : i < (befOf ops.toList).length := by rw [hM.length]; exact hl
  obtain ⟨_, hb⟩ := alone_spec ha (List.getElem?_eq_getElem hbl)
  have hready : Region.ready .any ops (upTo ops.size i) = [i] ∨ ∀ j, j ∈ Region.ready .any ops (upTo ops.size i) ↔ j = i := by
    right
    intro j
    rw [mem_ready]
    constructor
    · rintro ⟨o, h1, h2, h3⟩
      have hj : j < ops.size := by
        rcases Nat.lt_or_ge j ops.size with h' | h'
        · exact h'
        · simp [Array.getElem?_eq_none h'] at h1
      rw [upTo_get, if_pos hj] at h2
      have hij : i ≤ j := by simpa using h2
      rcases Nat.lt_or_eq_of_le hij with hlt | he
      · exfalso
        have hjb : j < (befOf ops.toList).length := by rw [hM.length]; simpa using hj
        have hbit := hb j _ hlt (List.getElem?_eq_getElem hjb)
        have h1' : ops.toList[j]? = some o := by rw [Array.getElem?_toList]; exact h1
        obtain ⟨e, he, hbind, hor⟩ := (hM.bit j o _ i h1' (List.getElem?_eq_getElem hjb)).1 hbit
        have hl3 := h3 e he hbind
        have hdown := hM.down j o h1' e he hbind
        rw [upTo_get, if_pos (by omega)] at hl3
        simp only [decide_eq_true_eq] at hl3
        rcases hor with rfl | ⟨m', hm', hbt⟩
        · omega
        · have := hM.lt _ _ _ hm' hbt; omega
      · exact he.symm
    · rintro rfl
      refine ⟨ops[j], by simp [hi], by rw [upTo_get, if_pos hi]; simp, fun e he hbind => ?_⟩
      have hdown := hM.down j ops[j] (by simp [hi]) e he hbind
      rw [upTo_get, if_pos (by omega)]
      simpa using hdown
  have hmem : ∀ j, j ∈ Region.ready .any ops (upTo ops.size i) ↔ j = i := by
    rcases hready with h' | h'
    · intro j; rw [h']; simp
    · exact h'
  rw [show ops.size - i = (ops.size - (i + 1)) + 1 by omega]
  refine ⟨fun hn => ?_, fun j hj => ?_⟩
  · have := (hmem i).2 rfl
    rw [hn] at this
    simp at this
  · have := (hmem j).1 hj
    subst this
    have hset : (upTo ops.size j).setIfInBounds j true = upTo ops.size (j + 1) := by
      apply listed_ext (by simp [upTo_size])
      intro k hk
      simp only [Array.size_setIfInBounds, upTo_size] at hk
      rw [upTo_get, if_pos hk, Array.getD_eq_getD_getElem?, Array.getElem?_setIfInBounds]
      by_cases hjk : j = k
      · subst hjk; simp [upTo_size, hk]
      · rw [if_neg hjk, ← Array.getD_eq_getD_getElem?, upTo_get, if_pos hk]
        simp only [decide_eq_decide]
        omega
    rw [hset]
    exact h
end Go.Proofs.Ytbbpmhbeohpmnaa.Rx
