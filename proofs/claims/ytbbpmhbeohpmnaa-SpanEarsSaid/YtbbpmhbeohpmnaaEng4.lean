/- The executor is sound: one operation. -/
import Derived.Test.YtbbpmhbeohpmnaaEng3
namespace Go.Proofs.Ytbbpmhbeohpmnaa.Rx
open Go.RowKit
variable {P : Program} {Z : World → Prop}

theorem mem_of_nth {α : Type} {l : List α} {i : Nat} {x : α} (h : nth l i = some x) : x ∈ l := by
  rw [nth_eq] at h
  exact List.mem_of_getElem? h

theorem place_ok {s : St} {pos ch off : Nat} {p : Place} (h : place s (.loc pos ch off) = some p) :
    nth s.H pos = some p.e ∧ p.e.o = .cells p.ty p.cs ∧ nth p.cs ch = some (.kn p.l) ∧ p.a = ⟨p.e.b, startOf p.cs ch + off, none⟩ := by
  simp only [place] at h
  cases h1 : nth s.H pos with
  | none => simp [h1] at h
  | some e =>
    simp only [h1] at h
    cases h2 : e.o with
    | cells ty cs =>
      simp only [h2] at h
      cases h3 : nth cs ch with
      | none => simp [h3] at h
      | some c =>
        cases c with
        | op xs => simp [h3] at h
        | kn l =>
          simp [h3] at h
          subst h
          exact ⟨rfl, h2, h3, rfl⟩
    | other o => simp [h2] at h
    | hole => simp [h2] at h

theorem owns_block {w : World} {H : List HE} {pos : Nat} {e : HE} {ty : TypeId} {cs : List Chunk} (hO : Owns w H) (h : nth H pos = some e) (ho : e.o = .cells ty cs) :
    w.heap[e.b]? = some (.cells (flat cs).toArray ty (0, 0)) := by
  have := hO.1 e (mem_of_nth h) (by rw [ho]; rfl)
  rw [ho] at this
  exact this

theorem cut_map {α β : Type} (f : α → β) (l : List α) (o n : Nat) : (cut l o n).map f = cut (l.map f) o n := by
  simp [cut]

theorem cut_get {α : Type} {l : List α} {o n j : Nat} {v : α} (h : (cut l o n)[j]? = some v) : l[o + j]? = some v := by
  simp only [cut, List.getElem?_take] at h
  split at h
  · simpa [List.getElem?_drop] using h
  · simp at h

theorem mid_get {α : Type} {pre x post : List α} {k j : Nat} {v : α} (hk : pre.length = k) (h : x[j]? = some v) : (pre ++ x ++ post)[k + j]? = some v := by
  have hj : j < x.length := by
    rcases Nat.lt_or_ge j x.length with h' | h'
    · exact h'
    · simp [List.getElem?_eq_none h'] at h
  rw [List.append_assoc, List.getElem?_append_right (by omega), show k + j - pre.length = j by omega, List.getElem?_append_left hj, h]

theorem loadAt_ok {w : World} {s : St} {t : TypeId} {x y : TV} {ob : List Ob} (hO : Owns w s.H) (h : loadAt P s t x = some (y, ob)) (ho : ∀ o ∈ ob, o.ok P) :
    (Instr.loadAt t x.v).run P w = .ok y.v w := by
  unfold loadAt at h
  cases hx : x.v with
  | pointer q =>
    cases q with
    | none => simp [hx] at h
    | some a =>
      simp only [hx] at h
      cases ht : x.t with
      | loc pos ch off =>
        simp only [ht] at h
        cases hp : place s (.loc pos ch off) with
        | none => simp [hp] at h
        | some p =>
          obtain ⟨h1, h2, h3, h4⟩ := place_ok hp
          have hb := owns_block hO h1 h2
          obtain ⟨pre, post, e1, e2, _⟩ := flat_at h3
          simp only [hp] at h
          cases hg : aggOf P t with
          | none => simp [hg] at h
          | some g =>
            cases g with
            | true =>
              simp only [hg, cond_eq_ite] at h
              split at h
              · rename_i hl
                rw [lenIs_iff] at hl
                simp only [Option.some.injEq, Prod.mk.injEq] at h
                obtain ⟨rfl, rfl⟩ := h
                have ha := ho (.addr a p.a) (by simp)
                simp only [Ob.ok] at ha
                rw [h4] at ha
                subst ha
                simp only [Instr.loadAt, Instr.sureAddr, Sem.run_bind, Sem.run_pure, Result.andThen_ok]
                refine run_loadVar_agg hg hb (by rw [valsOf_eq]; simp [hl]) (fun j v hj => ?_)
                rw [valsOf_eq, cut_map] at hj
                rw [e2, Nat.add_assoc]
                refine mid_get e1 ?_
                rw [valsOf_eq]
                exact cut_get hj
              · simp at h
            | false =>
              simp only [hg] at h
              cases hn : nth p.l off with
              | none => simp [hn] at h
              | some z =>
                simp only [hn, Option.some.injEq, Prod.mk.injEq] at h
                obtain ⟨rfl, rfl⟩ := h
                have ha := ho (.addr a p.a) (by simp)
                simp only [Ob.ok] at ha
                rw [h4] at ha
                subst ha
                simp only [Instr.loadAt, Instr.sureAddr, Sem.run_bind, Sem.run_pure, Result.andThen_ok]
                refine run_loadVar_one hg hb ?_
                rw [e2]
                refine mid_get e1 ?_
                rw [valsOf_eq, List.getElem?_map, ← nth_eq, hn]
                rfl
      | no => simp [ht] at h
      | many ts => simp [ht] at h
  | _ => simp [hx] at h

/-- What a step has turned: of what is known, and of all else nothing. -/
structure Turn (w w' : World) (H H' : List HE) : Prop where
  os : w'.os = w.os
  tape : w'.tape = w.tape
  output : w'.output = w.output
  size : w.heap.size ≤ w'.heap.size
  far : ∀ k, k < w.heap.size → k ∉ blocksOf H → w'.heap[k]? = w.heap[k]?
  owns : Owns w' H'
  blocks : blocksOf H' = blocksOf H

theorem blocksOf_setNth : ∀ (H : List HE) (pos : Nat) (e : HE) (ty ty' : TypeId) (cs cs' : List Chunk), nth H pos = some e → e.o = .cells ty cs →
    blocksOf (setNth H pos ⟨e.b, .cells ty' cs'⟩) = blocksOf H
  | [], _, e, _, _, _, _, h, _ => by simp [nth] at h
  | d :: r, 0, e, ty, ty', cs, cs', h, ho => by
    simp only [nth, Option.some.injEq] at h
    subst h
    simp [setNth, blocksOf, ho]
  | d :: r, i + 1, e, ty, ty', cs, cs', h, ho => by
    simp only [nth] at h
    have ih := blocksOf_setNth r i e ty ty' cs cs' h ho
    simp only [setNth, blocksOf]
    cases d.o <;> simp [ih]

theorem mem_blocks : ∀ {H : List HE} {e : HE}, e ∈ H → e.o.full = true → e.b ∈ blocksOf H
  | d :: r, e, h, hf => by
    rcases List.mem_cons.1 h with rfl | h
    · unfold blocksOf
      cases ho : e.o with
      | hole => simp [ho, HO.full] at hf
      | _ => simp
    · unfold blocksOf
      cases ho : d.o with
      | hole => exact mem_blocks h hf
      | _ => exact List.mem_cons_of_mem _ (mem_blocks h hf)

theorem mem_setNth : ∀ {α : Type} {l : List α} {i : Nat} {x y z : α}, nth l i = some z → y ∈ setNth l i x → y = x ∨ ∃ j, j ≠ i ∧ nth l j = some y
  | _, [], i, x, y, z, h, hy => by simp [nth] at h
  | _, a :: l, 0, x, y, z, h, hy => by
    simp only [setNth, List.mem_cons] at hy
    rcases hy with rfl | hy
    · exact .inl rfl
    · obtain ⟨j, hj⟩ := List.mem_iff_getElem?.1 hy
      exact .inr ⟨j + 1, by omega, by simp [nth, nth_eq, hj]⟩
  | _, a :: l, i + 1, x, y, z, h, hy => by
    simp only [nth] at h
    simp only [setNth, List.mem_cons] at hy
    rcases hy with rfl | hy
    · exact .inr ⟨0, by omega, rfl⟩
    · rcases mem_setNth h hy with rfl | ⟨j, hj, hn⟩
      · exact .inl rfl
      · exact .inr ⟨j + 1, by omega, hn⟩

theorem blocks_apart : ∀ {H : List HE} {i j : Nat} {e d : HE}, (blocksOf H).Nodup → nth H i = some e → nth H j = some d → i ≠ j → e.o.full = true → d.o.full = true → e.b ≠ d.b
  | [], i, j, e, d, _, h, _, _, _, _ => by simp [nth] at h
  | a :: l, 0, 0, e, d, _, _, _, hij, _, _ => by omega
  | a :: l, 0, j + 1, e, d, hn, h1, h2, hij, f1, f2 => by
    simp only [nth, Option.some.injEq] at h1 h2
    subst h1
    have hb := mem_blocks (mem_of_nth h2) f2
    unfold blocksOf at hn
    cases ho : a.o with
    | hole => simp [ho, HO.full] at f1
    | _ =>
      simp only [ho, List.nodup_cons] at hn
      intro he
      exact hn.1 (he ▸ hb)
  | a :: l, i + 1, 0, e, d, hn, h1, h2, hij, f1, f2 => by
    simp only [nth, Option.some.injEq] at h1 h2
    subst h2
    have hb := mem_blocks (mem_of_nth h1) f1
    unfold blocksOf at hn
    cases ho : a.o with
    | hole => simp [ho, HO.full] at f2
    | _ =>
      simp only [ho, List.nodup_cons] at hn
      intro he
      exact hn.1 (he ▸ hb)
  | a :: l, i + 1, j + 1, e, d, hn, h1, h2, hij, f1, f2 => by
    simp only [nth] at h1 h2
    refine blocks_apart (H := l) ?_ h1 h2 (by omega) f1 f2
    unfold blocksOf at hn
    cases ho : a.o with
    | hole => simpa [ho] using hn
    | _ => simp only [ho, List.nodup_cons] at hn; exact hn.2

theorem owns_set {w : World} {H : List HE} {pos : Nat} {e : HE} {ty : TypeId} {cs cs' : List Chunk} (hO : Owns w H) (h : nth H pos = some e) (ho : e.o = .cells ty cs) :
    Turn w (setBlk w e.b (.cells (flat cs').toArray ty (0, 0))) H (setNth H pos ⟨e.b, .cells ty cs'⟩) := by
  have hb := owns_block hO h ho
  have he : e.o.full = true := by rw [ho]; rfl
  refine ⟨rfl, rfl, rfl, by simp [setBlk], fun k _ hk => setBlk_other (fun e' => hk (e' ▸ mem_blocks (mem_of_nth h) he)), ⟨fun d hd hf => ?_, ?_⟩, ?_⟩
  · rcases mem_setNth h hd with rfl | ⟨j, hj, hn⟩
    · exact setBlk_same hb
    · rw [setBlk_other (blocks_apart hO.2 h hn (fun e' => hj e'.symm) he hf)]
      exact hO.1 d (mem_of_nth hn) hf
  · rw [blocksOf_setNth H pos e ty ty cs cs' h ho]
    exact hO.2
  · exact blocksOf_setNth H pos e ty ty cs cs' h ho

theorem storeAt_ok {w : World} {s s' : St} {t : TypeId} {x y : TV} {ob : List Ob} (hO : Owns w s.H) (h : storeAt P s t x y = some (s', ob)) (ho : ∀ o ∈ ob, o.ok P) :
    ∃ w', (Instr.storeAt t x.v y.v).run P w = .ok () w' ∧ Turn w w' s.H s'.H := by
  unfold storeAt at h
  cases hx : x.v with
  | pointer q =>
    cases q with
    | none => simp [hx] at h
    | some a =>
      simp only [hx] at h
      cases ht : x.t with
      | loc pos ch off =>
        simp only [ht] at h
        cases hp : place s (.loc pos ch off) with
        | none => simp [hp] at h
        | some p =>
          obtain ⟨h1, h2, h3, h4⟩ := place_ok hp
          have hb := owns_block hO h1 h2
          obtain ⟨pre, post, e1, e2, e3⟩ := flat_at h3
          simp only [hp] at h
          cases hi : P.info? t with
          | none => simp [hi] at h
          | some i =>
            simp only [hi, cond_eq_ite] at h
            split at h
            · rename_i hl
              simp only [Bool.and_eq_true, lenIs_iff, Nat.ble_eq] at hl
              obtain ⟨l0, l1, l2, l3⟩ := hl
              simp only [Option.some.injEq, Prod.mk.injEq] at h
              obtain ⟨rfl, rfl⟩ := h
              have ha := ho (.addr a p.a) (by simp)
              simp only [Ob.ok] at ha
              rw [h4] at ha
              subst ha
              have hsz : y.v.cells.size = i.size := by simpa using l1
              generalize hvs : y.v.cells.toList = vs at *
              have hlen : off + vs.length ≤ p.l.length := by
                simp only [cut, List.length_take, List.length_drop] at l2
                omega
              have hrun := run_storeCells (P := P) vs w (startOf p.cs ch + off) 0 (flat p.cs) hb l3 (by
                rw [e2, valsOf_eq]; simp only [List.length_append, List.length_map]; omega)
              refine ⟨_, ?_, owns_set hO h1 h2 (cs' := setNth p.cs ch (.kn (setAt p.l off (zipT vs (flatT y.t)))))⟩
              simp only [Instr.storeAt, Instr.sureAddr, storeVar, Sem.run_bind, Sem.run_pure, Result.andThen_ok, run_size hi]
              rw [if_neg (by simpa using hsz), hvs, hrun]
              congr 4
              rw [e3, e2, valsOf_eq (setAt _ _ _), setAt_map, ← valsOf_eq, ← valsOf_eq, zipT_v, Nat.add_zero, ← e1]
              exact setAt_mid _ _ _ _ _ (by rw [valsOf_eq, List.length_map]; exact hlen)
            · simp at h
      | no => simp [ht] at h
      | many ts => simp [ht] at h
  | _ => simp [hx] at h
end Go.Proofs.Ytbbpmhbeohpmnaa.Rx
