/- The executor is sound: equality of structs. -/
import Derived.Test.YtbbpmhbeohpmnaaEng4
import Derived.ChangeKeysEq
namespace Go.Proofs.Ytbbpmhbeohpmnaa.Rx
open Go.RowKit
variable {P : Program} {Z : World → Prop}

def vOf (P : Program) (t : TypeId) (xs : List Value) : Value := match aggOf P t with
  | some true => .agg xs.toArray
  | _ => xs.headD undef

theorem eqB_one {n : Nat} {t : TypeId} {xs ys : List Value} {r : Bool × List Ob} (ha : aggOf P t = some false) (h : eqB P n t xs ys = some r) :
    ∃ x y, xs = [x] ∧ ys = [y] := by
  cases n with
  | zero => simp [eqB] at h
  | succ n =>
    unfold eqB at h
    unfold aggOf at ha
    split at h
    · exact ⟨_, _, rfl, rfl⟩
    · exact ⟨_, _, rfl, rfl⟩
    · rename_i fs hu; simp [hu] at ha
    · rename_i m e hu; simp [hu] at ha
    · simp at h

theorem part_ok {w : World} {t : TypeId} {xs : List Value} {off : Nat} {b : Bool} (ha : aggOf P t = some b) (hl : (cut xs off (P.cellsOf t)).length = P.cellsOf t)
    (h1 : b = false → ∃ x, cut xs off (P.cellsOf t) = [x]) : (part t xs.toArray off).run P w = .ok (vOf P t (cut xs off (P.cellsOf t))) w := by
  obtain ⟨i, hi, hs⟩ := agg_info ha
  cases b with
  | true =>
    simp only [part, Sem.run_bind, run_isAgg ha, Result.andThen_ok, if_true, run_size hi, Sem.run_pure, vOf, ha]
    congr 2
    apply Array.ext'
    simp only [Array.toList_extract, cut, List.extract_eq_take_drop, hs]
    rw [show off + i.size - off = i.size by omega]
  | false =>
    obtain ⟨x, hx⟩ := h1 rfl
    have hg : xs[off]? = some x := by
      have := cut_get (l := xs) (o := off) (n := P.cellsOf t) (j := 0) (v := x) (by rw [hx]; rfl)
      simpa using this
    simp [part, Sem.run_bind, run_isAgg ha, vOf, ha, hx, hg]

theorem run_eq_struct {w : World} (d : Nat) (t : TypeId) (fs : Array Field) (xs ys : Array Value) (ht : P.underlying t = some (.struct fs)) (hp : P.stoodInHeld t = false) :
    (Op.equalIn (d + 1) t (.agg xs) (.agg ys)).run P w = (Op.eqFields d xs ys fs.toList).run P w := by
  have hf : P.fieldsOf t = fs := by simp [Program.fieldsOf, ht]
  have := run_equalIn_struct (P := P) w d t xs ys (by rw [hf]; exact ht) hp
  rw [hf] at this
  exact this

theorem eq_all : ∀ n, (∀ (t : TypeId) (xs ys : List Value) (r : Bool) (ob : List Ob), eqB P n t xs ys = some (r, ob) → (∀ o ∈ ob, o.ok P) → ∀ d, n ≤ d → ∀ w, (Op.equalIn d t (vOf P t xs) (vOf P t ys)).run P w = .ok r w) ∧
    (∀ (fs : List Field) (xs ys : List Value) (r : Bool) (ob : List Ob), eqFields P n fs xs ys = some (r, ob) → (∀ o ∈ ob, o.ok P) → (∀ f ∈ fs, f.name ≠ "_") → ∀ d, n ≤ d → ∀ w, (Op.eqFields d xs.toArray ys.toArray fs).run P w = .ok r w) ∧
    (∀ (m i : Nat) (e : TypeId) (xs ys : List Value) (r : Bool) (ob : List Ob), eqElems P n m e (xs.drop (i * P.cellsOf e)) (ys.drop (i * P.cellsOf e)) = some (r, ob) → (∀ o ∈ ob, o.ok P) → ∀ d, n ≤ d → ∀ w, (Op.eqItems d e (P.cellsOf e) xs.toArray ys.toArray (List.range' i m)).run P w = .ok r w) := by
  intro n
  induction n with
  | zero =>
    refine ⟨fun t xs ys r ob h => by simp [eqB] at h, fun fs xs ys r ob h => by simp [eqFields] at h, fun m i e xs ys r ob h => by simp [eqElems] at h⟩
  | succ n ih =>
    obtain ⟨ih1, ih2, ih3⟩ := ih
    refine ⟨?_, ?_, ?_⟩
    · intro t xs ys r ob h ho d hd w
      obtain ⟨d, rfl⟩ : ∃ d', d = d' + 1 := ⟨d - 1, by omega⟩
      unfold eqB at h
      cases hu : P.underlying t with
      | none => simp [hu] at h
      | some dd =>
        cases dd with
        | bool =>
          have ha : aggOf P t = some false := by simp [aggOf, hu]
          rcases xs with _ | ⟨x, _ | ⟨x', xs⟩⟩ <;> rcases ys with _ | ⟨y, _ | ⟨y', ys⟩⟩ <;> simp only [hu, reduceCtorEq] at h
          · cases x <;> cases y <;> simp at h
            obtain ⟨rfl, rfl⟩ := h
            simp only [vOf, ha, List.headD]
            exact run_equalIn_bool w d t _ _ hu
          all_goals (cases x <;> simp at h)
        | int k0 =>
          have ha : aggOf P t = some false := by simp [aggOf, hu]
          rcases xs with _ | ⟨x, _ | ⟨x', xs⟩⟩ <;> rcases ys with _ | ⟨y, _ | ⟨y', ys⟩⟩ <;> simp only [hu, reduceCtorEq] at h
          · cases x <;> cases y <;> simp only [reduceCtorEq, cond_eq_ite] at h
            split at h
            · rename_i hk
              simp only [decide_eq_true_eq] at hk
              subst hk
              simp only [Option.some.injEq, Prod.mk.injEq] at h
              obtain ⟨rfl, rfl⟩ := h
              simp only [vOf, ha, List.headD]
              exact run_equalIn_int w d t _ _ _ _ hu
            · simp at h
          all_goals (cases x <;> simp at h)
        | struct fs =>
          have ha : aggOf P t = some true := by simp [aggOf, hu]
          simp only [hu] at h
          cases hf : eqFields P n fs.toList xs ys with
          | none => simp [hf] at h
          | some q =>
            obtain ⟨r', ob'⟩ := q
            simp only [hf, Option.some.injEq, Prod.mk.injEq] at h
            obtain ⟨rfl, rfl⟩ := h
            have hs := ho (.safe t) (by simp)
            simp only [Ob.ok, SafeEq, hu] at hs
            simp only [vOf, ha]
            rw [run_eq_struct d t fs _ _ hu hs.1]
            exact ih2 fs.toList xs ys r' ob' hf (fun o h' => ho o (by simp [h'])) hs.2.2 d (by omega) w
        | array m e =>
          have ha : aggOf P t = some true := by simp [aggOf, hu]
          simp only [hu] at h
          simp only [vOf, ha]
          cases he : aggOf P e with
          | none => simp [he] at h
          | some b =>
            obtain ⟨i, hi, _⟩ := agg_info he
            simp only [he] at h
            rw [run_equalIn_array w d _ _ hu hi, List.range_eq_range']
            exact ih3 m 0 e xs ys r ob (by simpa using h) ho d (by omega) w
        | _ => simp [hu] at h
    · intro fs xs ys r ob h ho hn d hd w
      cases fs with
      | nil =>
        simp only [eqFields, Option.some.injEq, Prod.mk.injEq] at h
        obtain ⟨rfl, rfl⟩ := h
        simp [Op.eqFields]
      | cons f fs =>
        unfold eqFields at h
        cases ha : aggOf P f.type with
        | none => simp [ha] at h
        | some b =>
          simp only [ha, cond_eq_ite] at h
          split at h
          · rename_i hl
            simp only [Bool.and_eq_true, lenIs_iff] at hl
            cases h1 : eqB P n f.type (cut xs f.offset (P.cellsOf f.type)) (cut ys f.offset (P.cellsOf f.type)) with
            | none => simp [h1] at h
            | some q =>
              obtain ⟨r1, o1⟩ := q
              simp only [h1] at h
              cases h2 : eqFields P n fs xs ys with
              | none => simp [h2] at h
              | some q2 =>
                obtain ⟨r2, o2⟩ := q2
                simp only [h2, Option.some.injEq, Prod.mk.injEq] at h
                obtain ⟨rfl, rfl⟩ := h
                have e1 := ih1 _ _ _ _ _ h1 (fun o h' => ho o (by simp [h'])) d (by omega) w
                have e2 := ih2 _ _ _ _ _ h2 (fun o h' => ho o (by simp [h'])) (fun g hg => hn g (by simp [hg])) d (by omega) w
                have p1 := part_ok (w := w) ha hl.1 (fun hb => by subst hb; obtain ⟨x, _, hx, _⟩ := eqB_one ha h1; exact ⟨x, hx⟩)
                have p2 := part_ok (w := w) ha hl.2 (fun hb => by subst hb; obtain ⟨_, y, _, hy⟩ := eqB_one ha h1; exact ⟨y, hy⟩)
                simp only [Op.eqFields, if_pos (hn f (by simp)), Sem.run_bind, p1, p2, e1, Result.andThen_ok]
                cases r1
                · simp
                · simpa using e2
          · simp at h
    · intro m i e xs ys r ob h ho d hd w
      cases m with
      | zero =>
        simp only [eqElems, Option.some.injEq, Prod.mk.injEq] at h
        obtain ⟨rfl, rfl⟩ := h
        simp [Op.eqItems]
      | succ m =>
        unfold eqElems at h
        cases ha : aggOf P e with
        | none => simp [ha] at h
        | some b =>
          simp only [ha, cond_eq_ite] at h
          split at h
          · rename_i hl
            simp only [Bool.and_eq_true, lenIs_iff] at hl
            cases h1 : eqB P n e ((xs.drop (i * P.cellsOf e)).take (P.cellsOf e)) ((ys.drop (i * P.cellsOf e)).take (P.cellsOf e)) with
            | none => simp [h1] at h
            | some q =>
              obtain ⟨r1, o1⟩ := q
              simp only [h1, List.drop_drop] at h
              rw [show i * P.cellsOf e + P.cellsOf e = (i + 1) * P.cellsOf e by rw [Nat.add_mul, Nat.one_mul]] at h
              cases h2 : eqElems P n m e (xs.drop ((i + 1) * P.cellsOf e)) (ys.drop ((i + 1) * P.cellsOf e)) with
              | none => simp [h2] at h
              | some q2 =>
                obtain ⟨r2, o2⟩ := q2
                simp only [h2, Option.some.injEq, Prod.mk.injEq] at h
                obtain ⟨rfl, rfl⟩ := h
                have e1 := ih1 _ _ _ _ _ h1 (fun o h' => ho o (by simp [h'])) d (by omega) w
                have e2 := ih3 _ _ _ _ _ _ _ h2 (fun o h' => ho o (by simp [h'])) d (by omega) w
                have p1 := part_ok (w := w) (xs := xs) (off := i * P.cellsOf e) ha hl.1 (fun hb => by subst hb; obtain ⟨x, _, hx, _⟩ := eqB_one ha h1; exact ⟨x, hx⟩)
                have p2 := part_ok (w := w) (xs := ys) (off := i * P.cellsOf e) ha hl.2 (fun hb => by subst hb; obtain ⟨_, y, _, hy⟩ := eqB_one ha h1; exact ⟨y, hy⟩)
                simp only [cut] at p1 p2
                simp only [List.range'_succ, Op.eqItems, Sem.run_bind, p1, p2, e1, Result.andThen_ok]
                cases r1
                · simp
                · simpa using e2
          · simp at h
end Go.Proofs.Ytbbpmhbeohpmnaa.Rx
