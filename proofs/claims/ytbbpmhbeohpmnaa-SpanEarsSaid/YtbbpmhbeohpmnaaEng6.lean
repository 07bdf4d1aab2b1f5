/- The executor is sound: what an operation comes to. -/
import Derived.Test.YtbbpmhbeohpmnaaEng5
namespace Go.Proofs.Ytbbpmhbeohpmnaa.Rx
open Go.RowKit
variable {P : Program} {Z : World → Prop}

def valR (r : OR) : Value := match r.x with
  | some x => x.v
  | none => undef

structure Eff (o : Op) (w w' : World) (H : List HE) (b : Nat × Nat) (r : OR) : Prop where
  turn : Turn w w' H r.H
  nw : ∀ ho, r.nw = some ho → w.heap.size ≤ b.1 ∧ w'.heap[b.1]? = some ho.obj
  keep : isStore o = false → Below w.heap.size w w' ∧ r.H = H

theorem lt_of_some {w : World} {b : Nat} {o : Obj} (h : w.heap[b]? = some o) : b < w.heap.size := by
  rcases Nat.lt_or_ge b w.heap.size with h' | h'
  · exact h'
  · simp [Array.getElem?_eq_none h'] at h

theorem Owns.below {w w' : World} {H : List HE} (hO : Owns w H) (hb : Below w.heap.size w w') : Owns w' H :=
  ⟨fun e he hf => by rw [hb.block _ (lt_of_some (hO.1 e he hf))]; exact hO.1 e he hf, hO.2⟩

theorem Turn.below {w w' : World} {H : List HE} (hO : Owns w H) (hb : Below w.heap.size w w') : Turn w w' H H :=
  ⟨hb.os, hb.tape, hb.output, hb.size, fun k hk _ => hb.block k hk, hO.below hb, rfl⟩

theorem below_push (w : World) (o : Obj) : Below w.heap.size w { w with heap := w.heap.push o } :=
  ⟨rfl, rfl, rfl, by simp, fun k hk => by simp [Array.getElem?_push, show k ≠ w.heap.size by omega]⟩

theorem incr_cons : ∀ (r : List Nat) (k : Nat), incr (k :: r) = true → incr r = true ∧ ∀ k' ∈ r, k + 1 ≤ k'
  | [], k, _ => ⟨rfl, by simp⟩
  | b :: r, k, h => by
    simp only [incr, Bool.and_eq_true, Nat.blt_eq] at h
    have := incr_cons r b h.2
    refine ⟨h.2, fun k' hk => ?_⟩
    rcases List.mem_cons.1 hk with rfl | hk
    · omega
    · have := this.2 k' hk; omega

theorem selH_sub : ∀ (ks : List Nat) (H : List HE), incr ks = true → (selH ks H).Sublist H ∧ ∀ k0, (∀ k ∈ ks, k0 ≤ k) → (selH ks H).Sublist (H.drop k0)
  | [], H, _ => ⟨List.nil_sublist _, fun _ _ => List.nil_sublist _⟩
  | k :: r, H, h => by
    have hr := incr_cons r k h
    have key : ∀ k0, k0 ≤ k → (selH (k :: r) H).Sublist (H.drop k0) := by
      intro k0 hk0
      have h2 := (selH_sub r H hr.1).2 (k + 1) hr.2
      simp only [selH]
      cases hn : nth H k with
      | none => exact h2.trans (by rw [show k + 1 = k0 + (k + 1 - k0) by omega, ← List.drop_drop]; exact List.drop_sublist _ _)
      | some e =>
        have hlt : k < H.length := by
          rcases Nat.lt_or_ge k H.length with h' | h'
          · exact h'
          · rw [nth_eq, List.getElem?_eq_none h'] at hn; simp at hn
        rw [nth_eq, List.getElem?_eq_getElem hlt] at hn
        have hd : H.drop k = e :: H.drop (k + 1) := by rw [List.drop_eq_getElem_cons hlt, Option.some.inj hn]
        have h3 : (e :: selH r H).Sublist (H.drop k) := by rw [hd]; exact h2.cons_cons e
        refine h3.trans ?_
        rw [show k = k0 + (k - k0) by omega, ← List.drop_drop]
        exact List.drop_sublist _ _
    exact ⟨by simpa using key 0 (by omega), fun k0 hk0 => key k0 (hk0 k (by simp))⟩

theorem blocksOf_sublist : ∀ {A B : List HE}, A.Sublist B → (blocksOf A).Sublist (blocksOf B) := by
  intro A B h
  induction h with
  | slnil => exact List.Sublist.refl _
  | cons a _ ih =>
    simp only [blocksOf]
    split
    · exact ih
    · exact ih.cons _
  | cons_cons a _ ih =>
    simp only [blocksOf]
    split
    · exact ih
    · exact ih.cons_cons _

theorem Owns.sel {w : World} {H : List HE} (h : Owns w H) {ks : List Nat} (hk : incr ks = true) : Owns w (selH ks H) :=
  ⟨fun e he hf => h.1 e ((selH_sub ks H hk).1.mem he) hf, h.2.sublist (blocksOf_sublist (selH_sub ks H hk).1)⟩

/-- Every number of plain functions' names is not that of the one that the model takes apart. -/
def Fine (P : Program) : Prop := ∀ (f : Nat) (fn : Func), P.funcs[f]? = some fn → (fn.name == "runtime.NumGoroutine") = false

theorem run_callFunc (hP : Fine P) {f : FuncId} {fn : Func} {c : Code} (hf : P.funcs[f]? = some fn) (hb : fn.body = some c) (args : Array Value) (w : World) :
    (callFunc f args).run P w = .ok (.enter f args) w := by
  have h := hP f fn hf
  simp only [beq_eq_false_iff_ne, ne_eq] at h
  simp [callFunc, hf, h, hb]

theorem mkNew_obj {o : Obj} {ts : List Tag} {ho : HO} (h : mkNew o ts = some ho) : ho.obj = o := by
  unfold mkNew at h
  split at h
  · simp only [Option.some.injEq] at h
    subst h
    simp [HO.obj, flat, Chunk.vals, zipT_v]
  · simp only [Option.some.injEq] at h
    subst h
    rfl
  · simp at h

section
variable {n : Nat} {fr : Fr} {a : Act} {G : Option Bool} {o : Oper} {s : St} {pos : Nat} {w : World} {C : Nat × Nat → OR → Prop} {K : Act → World → Prop}
  {Q : Exit → Act → World → Prop}

theorem wp_value {v : Value} {w' : World} (h : (execOp a.eval o).run P w = .ok (.value v) w') (hK : K (a.put o.dst v) w') : o.wp P a w K Q := by
  unfold Oper.wp
  rw [h]
  exact hK

theorem wp_skip' {w' : World} (h : (execOp a.eval o).run P w = .ok .skip w') (hK : K (a.put o.dst undef) w') : o.wp P a w K Q := by
  unfold Oper.wp
  rw [h]
  exact hK

theorem eff_same {b : Nat × Nat} {r : OR} (hO : Owns w s.H) (h1 : r.H = s.H) (h2 : r.nw = none) : Eff o.op w w s.H b r :=
  ⟨by rw [h1]; exact Turn.below hO (Below.refl _ _), fun ho h => by rw [h2] at h; simp at h, fun _ => ⟨Below.refl _ _, h1⟩⟩

theorem evalGen_ok (hA : Agrees n fr a) (hG : Gok G) (hO : Owns w s.H) (hsel : ∀ cs b, o.op ≠ .select cs b)
    (h : ∃ r, evalGen P (w.heap.size, 0) fr G o s pos = some r ∧ (∀ ob ∈ r.ob, ob.ok P) ∧ C (w.heap.size, 0) r)
    (hK : ∀ b r w', C b r → Eff o.op w w' s.H b r → K (a.put o.dst (valR r)) w') : o.wp P a w K Q := by
  obtain ⟨r, h, ho, hC⟩ := h
  unfold evalGen at h
  cases h1 : opnds fr G o.op.operands.toList with
  | none => simp [h1] at h
  | some q =>
    obtain ⟨ys, ob⟩ := q
    simp only [h1] at h
    cases h2 : semRun P w.heap.size (execOp (rho fr) o) none with
    | none => simp [h2] at h
    | some q2 =>
      obtain ⟨nx, u⟩ := q2
      simp only [h2] at h
      cases nx with
      | value v =>
        have hs := semRun_ok (P := P) _ _ _ _ _ h2
        cases u with
        | none =>
          simp only [Option.some.injEq] at h
          subst h
          have hc := (opnds_ok hA hG h1 ho).2
          rw [execOp_congr o hsel (fun x hx => hc x (by simpa using hx))] at hs
          exact wp_value (hs.1 rfl rfl w) (hK _ _ w hC (eff_same hO rfl rfl))
        | some obj =>
          simp only [] at h
          cases G with
          | some g => simp at h
          | none =>
            cases hm : mkNew obj (tagNew P fr none o.op) with
            | none => simp [hm] at h
            | some hobj =>
              simp only [hm, Option.some.injEq] at h
              subst h
              have hc := (opnds_ok hA hG h1 ho).2
              rw [execOp_congr o hsel (fun x hx => hc x (by simpa using hx))] at hs
              refine wp_value (hs.2.1 rfl obj rfl w rfl) (hK _ _ _ hC ⟨Turn.below hO (below_push w obj), fun ho' h' => ?_, fun _ => ⟨below_push w obj, rfl⟩⟩)
              simp only [Option.some.injEq] at h'
              subst h'
              exact ⟨Nat.le_refl _, by rw [mkNew_obj hm]; simp⟩
      | _ => simp at h

theorem evalLoad_ok {t : TypeId} {x : Operand} (hop : o.op = .load t x) (hA : Agrees n fr a) (hG : Gok G) (hO : Owns w s.H)
    (h : ∃ r, evalLoad P fr G t x s = some r ∧ (∀ ob ∈ r.ob, ob.ok P) ∧ C (w.heap.size, 0) r)
    (hK : ∀ b r w', C b r → Eff o.op w w' s.H b r → K (a.put o.dst (valR r)) w') : o.wp P a w K Q := by
  obtain ⟨r, h, ho, hC⟩ := h
  unfold evalLoad at h
  cases h1 : opnd fr G x with
  | none => simp [h1] at h
  | some q =>
    obtain ⟨y, o1⟩ := q
    simp only [h1] at h
    cases h2 : loadAt P s t y with
    | none => simp [h2] at h
    | some q2 =>
      obtain ⟨z, o2⟩ := q2
      simp only [h2, Option.some.injEq] at h
      subst h
      have e1 := (opnd_ok hA hG h1 (fun ob hob => ho ob (by simp [hob]))).1
      have e2 := loadAt_ok hO h2 (fun ob hob => ho ob (by simp [hob]))
      refine wp_value (v := z.v) (w' := w) ?_ (hK _ _ w hC (eff_same hO rfl rfl))
      simp only [execOp, hop, e1, Sem.run_bind, e2, Result.andThen_ok, Sem.run_pure]

theorem evalStore_ok {t : TypeId} {x y : Operand} (hop : o.op = .store t x y) (hA : Agrees n fr a) (hO : Owns w s.H)
    (h : ∃ r, evalStore P fr G t x y s = some r ∧ (∀ ob ∈ r.ob, ob.ok P) ∧ C (w.heap.size, 0) r)
    (hK : ∀ b r w', C b r → Eff o.op w w' s.H b r → K (a.put o.dst (valR r)) w') : o.wp P a w K Q := by
  obtain ⟨r, h, ho, hC⟩ := h
  unfold evalStore at h
  cases G with
  | some g => simp at h
  | none =>
    have hG : Gok none := fun g hg => by simp at hg
    cases h1 : opnd fr none x with
    | none => simp [h1] at h
    | some q =>
      obtain ⟨u, o1⟩ := q
      cases h2 : opnd fr none y with
      | none => simp [h1, h2] at h
      | some q2 =>
        obtain ⟨z, o2⟩ := q2
        simp only [h1, h2] at h
        cases h3 : storeAt P s t u z with
        | none => simp [h3] at h
        | some q3 =>
          obtain ⟨s', o3⟩ := q3
          simp only [h3, Option.some.injEq] at h
          subst h
          have e1 := (opnd_ok hA hG h1 (fun ob hob => ho ob (by simp [hob]))).1
          have e2 := (opnd_ok hA hG h2 (fun ob hob => ho ob (by simp [hob]))).1
          obtain ⟨w', hr, ht⟩ := storeAt_ok hO h3 (fun ob hob => ho ob (by simp [hob]))
          refine wp_skip' (w' := w') ?_ (hK _ _ w' hC ⟨ht, fun _ h' => by simp at h', fun hk => by simp [hop, isStore] at hk⟩)
          simp only [execOp, hop, e1, e2, Sem.run_bind, hr, Result.andThen_ok, Sem.run_pure]

theorem evalPick_ok {c x y : Operand} (hop : o.op = .pick c x y) (hA : Agrees n fr a) (hG : Gok G) (hO : Owns w s.H)
    (h : ∃ r, evalPick fr G c x y s = some r ∧ (∀ ob ∈ r.ob, ob.ok P) ∧ C (w.heap.size, 0) r)
    (hK : ∀ b r w', C b r → Eff o.op w w' s.H b r → K (a.put o.dst (valR r)) w') : o.wp P a w K Q := by
  obtain ⟨r, h, ho, hC⟩ := h
  unfold evalPick at h
  split at h
  · rename_i t o1 h1
    split at h
    · rename_i z o2 h2
      simp only [Option.some.injEq] at h
      subst h
      have e1 := (opnd_ok hA hG h1 (fun ob hob => ho ob (by simp [hob]))).1
      have key : (if t then a.eval x else a.eval y) = z.v := by
        cases t with
        | true =>
          have hG' : Gok (some (andG G true)) := fun g hg => by
            simp only [Option.some.injEq] at hg
            subst hg
            cases G with
            | none => rfl
            | some g => simp [andG, hG g rfl]
          exact (opnd_ok hA hG' h2 (fun ob hob => ho ob (by simp [hob]))).1
        | false =>
          have hG' : Gok (some (andG G (!false))) := fun g hg => by
            simp only [Option.some.injEq] at hg
            subst hg
            cases G with
            | none => rfl
            | some g => simp [andG, hG g rfl]
          exact (opnd_ok hA hG' h2 (fun ob hob => ho ob (by simp [hob]))).1
      refine wp_value (v := z.v) (w' := w) ?_ (hK _ _ w hC (eff_same hO rfl rfl))
      simp only [execOp, hop, e1, asBool, Sem.run_bind, Sem.run_pure, Result.andThen_ok]
      rw [key]
    · simp at h
  · rename_i t tg o1 _ h1
    split at h
    · rename_i x' tx o2 y' ty o3 h2 h3
      simp only [Option.some.injEq] at h
      subst h
      have e1 := (opnd_ok hA hG h1 (fun ob hob => ho ob (by simp [hob]))).1
      have key : (if t then a.eval x else a.eval y) = .bool (cond t x' y') := by
        cases t with
        | true =>
          have hG' : Gok (some (andG G true)) := fun g hg => by
            simp only [Option.some.injEq] at hg
            subst hg
            cases G with
            | none => rfl
            | some g => simp [andG, hG g rfl]
          exact (opnd_ok hA hG' h2 (fun ob hob => ho ob (by simp [hob]))).1
        | false =>
          have hG' : Gok (some (andG G (!false))) := fun g hg => by
            simp only [Option.some.injEq] at hg
            subst hg
            cases G with
            | none => rfl
            | some g => simp [andG, hG g rfl]
          exact (opnd_ok hA hG' h3 (fun ob hob => ho ob (by simp [hob]))).1
      refine wp_value (v := .bool (cond t x' y')) (w' := w) ?_ (hK _ _ w hC (eff_same hO rfl rfl))
      simp only [execOp, hop, e1, asBool, Sem.run_bind, Sem.run_pure, Result.andThen_ok]
      rw [key]
    · simp at h
  · simp at h

theorem evalEq_ok {neg : Bool} {t yt : TypeId} {x y : Operand} (hop : o.op = .binOp (bif neg then .neq else .eql) t x y yt) (hA : Agrees n fr a) (hG : Gok G) (hO : Owns w s.H)
    (h : ∃ r, evalEq P neg fr G t x y s = some r ∧ (∀ ob ∈ r.ob, ob.ok P) ∧ C (w.heap.size, 0) r)
    (hK : ∀ b r w', C b r → Eff o.op w w' s.H b r → K (a.put o.dst (valR r)) w') : o.wp P a w K Q := by
  obtain ⟨r, h, ho, hC⟩ := h
  unfold evalEq at h
  split at h
  · rename_i xs tx o1 ys ty o2 h1 h2
    split at h
    · rename_i r' o3 ha hq
      simp only [Option.some.injEq] at h
      subst h
      have e1 := (opnd_ok hA hG h1 (fun ob hob => ho ob (by simp [hob]))).1
      have e2 := (opnd_ok hA hG h2 (fun ob hob => ho ob (by simp [hob]))).1
      have hs := ho (.safe t) (by simp)
      simp only [Ob.ok, SafeEq] at hs
      have heq := (eq_all 100).1 t xs.toList ys.toList r' o3 hq (fun ob hob => ho ob (by simp [hob])) 10000 (by decide) w
      simp only [vOf, ha] at heq
      refine wp_value (v := .bool (bif neg then !r' else r')) (w' := w) ?_ (hK _ _ w hC (eff_same hO rfl rfl))
      cases neg
      · simp only [cond_false] at hop ⊢
        simp only [execOp, hop, e1, e2, Sem.run_bind, run_eqGuard_agg w _ t x y xs ys hs.2.1, Result.andThen_ok, run_eql_struct, heq, Sem.run_pure]
      · simp only [cond_true] at hop ⊢
        simp only [execOp, hop, e1, e2, Sem.run_bind, run_eqGuard_agg w _ t x y xs ys hs.2.1, Result.andThen_ok, run_neq_struct, heq, Sem.run_pure]
    · simp at h
  · simp at h

theorem run_sameAddr {H : List HE} {p1 p2 : Nat} {e1 e2 : HE} {t1 t2 : TypeId} {c1 c2 : List Chunk} {f1 f2 : Nat} (hO : Owns w H) (h1 : nth H p1 = some e1) (h2 : nth H p2 = some e2) (g1 : e1.o = .cells t1 c1) (g2 : e2.o = .cells t2 c2) (hne : p1 ≠ p2) :
    (sameAddr ⟨e1.b, f1, none⟩ ⟨e2.b, f2, none⟩).run P w = .ok false w := by
  have b1 := owns_block hO h1 g1
  have b2 := owns_block hO h2 g2
  have hn := blocks_apart hO.2 h1 h2 hne (by rw [g1]; rfl) (by rw [g2]; rfl)
  have s1 : w.shape? e1.b = some (t1, (flat c1).length) := by simp [World.shape?, b1]
  have s2 : w.shape? e2.b = some (t2, (flat c2).length) := by simp [World.shape?, b2]
  have z1 : ∀ k, w.frozen? ⟨e1.b, k, none⟩ = false := fun k => frozen_block b1 k
  have z2 : ∀ k, w.frozen? ⟨e2.b, k, none⟩ = false := fun k => frozen_block b2 k
  simp [sameAddr, hn, z1, z2, noView, viewAt, s1, s2, mayBeOne, stringish]

theorem evalPEq_ok {neg : Bool} {t yt : TypeId} {x y : Operand} (hop : o.op = .binOp (bif neg then .neq else .eql) t x y yt) (hA : Agrees n fr a) (hG : Gok G) (hO : Owns w s.H)
    (h : ∃ r, evalPEq P neg fr G t x y s = some r ∧ (∀ ob ∈ r.ob, ob.ok P) ∧ C (w.heap.size, 0) r)
    (hK : ∀ b r w', C b r → Eff o.op w w' s.H b r → K (a.put o.dst (valR r)) w') : o.wp P a w K Q := by
  obtain ⟨r, h, ho, hC⟩ := h
  unfold evalPEq at h
  split at h
  · rename_i ad p1 c1 f1 o1 bd p2 c2 f2 o2 h1 h2
    split at h
    · rename_i e pa pb hu hpa hpb
      obtain ⟨k1, k2, k3, k4⟩ := place_ok hpa
      obtain ⟨l1, l2, l3, l4⟩ := place_ok hpb
      split at h
      · rename_i i hi
        simp only [cond_eq_ite] at h
        split at h
        · rename_i hz
          have hz' : i.size ≠ 0 := by simp at hz; omega
          have key : ∀ bb : Bool, (sameAddr ad bd).run P w = .ok bb w → (bif neg then !bb else bb) = (bif neg then !bb else bb) →
              ∀ v, a.eval x = .pointer (some ad) → a.eval y = .pointer (some bd) → v = Value.bool (bif neg then !bb else bb) → (execOp a.eval o).run P w = .ok (.value v) w := by
            intro bb hs _ v e1 e2 hv
            subst hv
            have heq0 : ∀ d, (Op.equalIn (d + 1) t (.pointer (some ad)) (.pointer (some bd))).run P w = .ok bb w := by
              intro d
              simp only [Op.equalIn, Sem.run_bind, run_under hu, Result.andThen_ok, run_size hi]
              simp [hz', hs]
            have heq : (Op.equalIn 10000 t (.pointer (some ad)) (.pointer (some bd))).run P w = .ok bb w := heq0 9999
            have hgd : ∀ op, (eqGuard op t x y (.pointer (some ad)) (.pointer (some bd))).run P w = .ok () w := by
              intro op
              cases op <;> simp [eqGuard]
            have hb1 : binOp .eql t (.pointer (some ad)) (.pointer (some bd)) = (do pure (.bool (← Op.equalIn 10000 t (.pointer (some ad)) (.pointer (some bd))))) := rfl
            have hb2 : binOp .neq t (.pointer (some ad)) (.pointer (some bd)) = (do pure (.bool (!(← Op.equalIn 10000 t (.pointer (some ad)) (.pointer (some bd)))))) := rfl
            cases neg
            · simp only [cond_false] at hop ⊢
              simp only [execOp, hop, e1, e2, hgd, hb1, heq, Sem.run_bind, Sem.run_pure, Result.andThen_ok]
            · simp only [cond_true] at hop ⊢
              simp only [execOp, hop, e1, e2, hgd, hb2, heq, Sem.run_bind, Sem.run_pure, Result.andThen_ok]
          split at h
          · rename_i hp
            split at h
            · rename_i hcf
              simp only [Bool.and_eq_true, Nat.beq_eq] at hcf hp
              simp only [Option.some.injEq] at h
              subst h
              obtain ⟨rfl, rfl⟩ := hcf
              subst hp
              have e1 := (opnd_ok hA hG h1 (fun ob hob => ho ob (by simp [hob]))).1
              have e2 := (opnd_ok hA hG h2 (fun ob hob => ho ob (by simp [hob]))).1
              have a1 := ho (.addr ad pa.a) (by simp)
              have a2 := ho (.addr bd pb.a) (by simp)
              simp only [Ob.ok] at a1 a2
              rw [hpa] at hpb
              obtain rfl := Option.some.inj hpb
              have had : ad = bd := a1.trans a2.symm
              subst had
              refine wp_value (key true (by simp [sameAddr]) rfl (.bool (!neg)) e1 e2 (by cases neg <;> rfl)) (hK _ _ w hC (eff_same hO rfl rfl))
            · simp at h
          · rename_i hp
            simp only [Nat.beq_eq] at hp
            simp only [Option.some.injEq] at h
            subst h
            have e1 := (opnd_ok hA hG h1 (fun ob hob => ho ob (by simp [hob]))).1
            have e2 := (opnd_ok hA hG h2 (fun ob hob => ho ob (by simp [hob]))).1
            have a1 := ho (.addr ad pa.a) (by simp)
            have a2 := ho (.addr bd pb.a) (by simp)
            simp only [Ob.ok] at a1 a2
            refine wp_value (key false (by rw [a1, a2, k4, l4]; exact run_sameAddr hO k1 l1 k2 l2 hp) rfl (.bool neg) e1 e2 (by cases neg <;> rfl)) (hK _ _ w hC (eff_same hO rfl rfl))
        · simp at h
      · simp at h
    · simp at h
  · simp at h

theorem under_ok {p : Prop} (hG : Gok G) (h : under G p) : p := by
  cases G with
  | none => exact h
  | some g => exact h (hG g rfl)

theorem ixOb_ok {c : Bool} {nn : Int} {len off sz st : Nat} (hG : Gok G) (h : (ixOb c G nn len off sz st).ok P) : IxOk nn len off sz st := by
  cases c with
  | false => exact under_ok hG h
  | true =>
    have h' : ixB nn len off sz st = true := h
    simp only [ixB, Bool.and_eq_true, decide_eq_true_eq, Nat.beq_eq] at h'
    exact ⟨⟨h'.1, h'.2.1⟩, h'.2.2⟩

theorem evalIx_ok {t : TypeId} {x i : Operand} (hop : o.op = .indexAddr t x i) (hA : Agrees n fr a) (hG : Gok G) (hO : Owns w s.H)
    (h : ∃ r, evalIx P fr G t x i s = some r ∧ (∀ ob ∈ r.ob, ob.ok P) ∧ C (w.heap.size, 0) r)
    (hK : ∀ b r w', C b r → Eff o.op w w' s.H b r → K (a.put o.dst (valR r)) w') : o.wp P a w K Q := by
  obtain ⟨r, h, ho, hC⟩ := h
  unfold evalIx at h
  split at h
  · rename_i c ch off hs hh
    split at h
    · rename_i ad len cp pos' _ _ o1 k nn ti o2 h1 h2
      split at h
      · rename_i e p hu hpl
        obtain ⟨_, _, _, k4⟩ := place_ok hpl
        cases hae : aggOf P e with
        | none => simp [hae] at h
        | some bb =>
        simp only [hae, Option.some.injEq] at h
        subst h
        have e1 := (opnd_ok hA hG h1 (fun ob hob => ho ob (by simp [hob]))).1
        have e2 := (opnd_ok hA hG h2 (fun ob hob => ho ob (by simp [hob]))).1
        have hp : IxOk nn len ad.off (P.cellsOf e) p.a.off := ixOb_ok hG (ho (ixOb c G nn len ad.off (P.cellsOf e) p.a.off) (by simp))
        have ha := ho (.addr ad ⟨p.a.block, ad.off, none⟩) (by simp)
        simp only [Ob.ok] at ha
        obtain ⟨hp1, hp2⟩ := hp
        obtain ⟨inf, hi, hz⟩ := agg_info hae
        refine wp_value (v := .pointer (some p.a)) (w' := w) ?_ (hK _ _ w hC (eff_same hO rfl rfl))
        simp only [execOp, hop, e1, e2, Instr.indexAt, Instr.sureAddr, asIntOf, Sem.run_bind, Sem.run_pure, Result.andThen_ok, run_under hu, Sem.run_ite, if_pos hp1, run_size hi]
        have hpa : p.a = ⟨p.a.block, p.a.off, none⟩ := by rw [k4]
        rw [ha, add_eq, ← hz]
        simp only [hp2]
        rw [← hpa]
      · simp at h
    · rename_i ad pos' _ _ o1 k nn ti o2 h1 h2
      split at h
      · rename_i len e p hu hpl
        obtain ⟨_, _, _, k4⟩ := place_ok hpl
        cases hae : aggOf P e with
        | none => simp [hae] at h
        | some bb =>
        simp only [hae, Option.some.injEq] at h
        subst h
        have e1 := (opnd_ok hA hG h1 (fun ob hob => ho ob (by simp [hob]))).1
        have e2 := (opnd_ok hA hG h2 (fun ob hob => ho ob (by simp [hob]))).1
        have hp : IxOk nn len ad.off (P.cellsOf e) p.a.off := ixOb_ok hG (ho (ixOb c G nn len ad.off (P.cellsOf e) p.a.off) (by simp))
        have ha := ho (.addr ad ⟨p.a.block, ad.off, none⟩) (by simp)
        simp only [Ob.ok] at ha
        obtain ⟨hp1, hp2⟩ := hp
        obtain ⟨inf, hi, hz⟩ := agg_info hae
        refine wp_value (v := .pointer (some p.a)) (w' := w) ?_ (hK _ _ w hC (eff_same hO rfl rfl))
        simp only [execOp, hop, e1, e2, Instr.indexAt, Instr.sureAddr, asIntOf, Sem.run_bind, Sem.run_pure, Result.andThen_ok, run_under hu, Sem.run_ite, if_pos hp1, run_size hi]
        have hpa : p.a = ⟨p.a.block, p.a.off, none⟩ := by rw [k4]
        rw [ha, add_eq, ← hz]
        simp only [hp2]
        rw [← hpa]
      · simp at h
    · simp at h
  · simp at h

theorem evalCall_ok (hP : Fine P) (hZ : Z w) {f : Operand} {args : Array Operand} {ats : Array TypeId} (hop : o.op = .call ⟨.value f, args, ats⟩) (hA : Agrees n fr a) (hG : Gok G) (hO : Owns w s.H)
    (h : ∀ b, ∃ r, evalCall P Z b fr G f args.toList s pos = some r ∧ (∀ ob ∈ r.ob, ob.ok P) ∧ C b r)
    (hK : ∀ b r w', C b r → Eff o.op w w' s.H b r → K (a.put o.dst (valR r)) w') : o.wp P a w K Q := by
  obtain ⟨r, h0, ho, hC⟩ := h (w.heap.size, 0)
  unfold evalCall at h0 h
  split at h0
  · rename_i fid first cap tg o1 xs o2 h1 h2
    split at h0
    · simp at h0
    · rename_i fn h3
      split at h0
      · simp at h0
      · rename_i body h4
        have hrun : ∀ (hob : ∀ ob ∈ o1 ++ o2, ob.ok P), (execOp a.eval o).run P w = .ok (.enter fid (first.toList ++ valsOf xs ++ cap.toList).toArray) w := by
          intro hob
          have e1 := (opnd_ok hA hG h1 (fun ob h' => hob ob (by simp [h']))).1
          have e2 := (opnds_ok hA hG h2 (fun ob h' => hob ob (by simp [h']))).1
          simp only [execOp, hop, resolve, e1, Deferred.ofValue, Sem.run_bind, Sem.run_pure, Result.andThen_ok, invoke]
          rw [run_callFunc hP (by rw [← Array.getElem?_toList, ← nth_eq]; exact h3) h4]
          congr 2
          apply Array.ext'
          simp [← e2]
        have hup : ∀ (R : Ending → World → Prop) (hob : ∀ ob ∈ o1 ++ o2, ob.ok P), Calls P fid (first.toList ++ valsOf xs ++ cap.toList).toArray w R →
            (∀ e w', R e w' → ∃ v, e = .returned v ∧ K (a.put o.dst v) w') → o.wp P a w K Q := by
          intro R hob hc hr
          unfold Oper.wp
          rw [hrun hob]
          refine hc.mono fun e w' he => ?_
          obtain ⟨v, rfl, hk⟩ := hr e w' he
          exact hk
        split at h0
        · rename_i v hs h5
          simp only [Option.some.injEq] at h0
          subst h0
          have hp := under_ok hG (ho (.prop (under G (PureCall P fid (first.toList ++ valsOf xs ++ cap.toList) v))) (by simp))
          refine hup _ (fun ob hob => ho ob (by simp only [List.mem_append] at hob ⊢; exact .inl hob)) (hp w) fun e w' ⟨he, hb⟩ => ⟨v, he, hK _ _ w' hC ⟨Turn.below hO hb, fun _ h' => by simp at h', fun _ => ⟨hb, rfl⟩⟩⟩
        · rename_i ks v hs h5
          rw [cond_eq_ite] at h0
          split at h0
          · simp at h0
          rename_i hinc
          simp only [Option.some.injEq] at h0
          subst h0
          have hp := under_ok hG (ho (.prop (under G (ReadCall P (selH ks s.H) fid (first.toList ++ valsOf xs ++ cap.toList) v))) (by simp))
          refine hup _ (fun ob hob => ho ob (by simp only [List.mem_append] at hob ⊢; exact .inl hob)) (hp w (hO.sel (by simpa using hinc))) fun e w' ⟨he, hb⟩ => ⟨v, he, hK _ _ w' hC ⟨Turn.below hO hb, fun _ h' => by simp at h', fun _ => ⟨hb, rfl⟩⟩⟩
        · rename_i ks v t ob' hs h5
          rw [cond_eq_ite] at h0
          split at h0
          · simp at h0
          rename_i hinc
          split at h0
          · rename_i hGn
            simp only [Option.some.injEq] at h0
            subst h0
            have hp := ho (.prop (NewCall P (selH ks s.H) fid (first.toList ++ valsOf xs ++ cap.toList) v ob')) (by simp)
            refine hup _ (fun ob hob => ho ob (by simp only [List.mem_append] at hob ⊢; exact .inl hob)) (hp w (hO.sel (by simpa using hinc))) fun e w' ⟨b, x, he, hb1, hb2, hb⟩ => ⟨v b x, he, ?_⟩
            obtain ⟨r', h', _, hC'⟩ := h (b, x)
            simp only [h1, h2, h3, h4, h5, hinc, cond_false] at h'
            simp only [Option.some.injEq] at h'
            subst h'
            refine hK (b, x) _ w' hC' ⟨Turn.below hO hb, fun ho' h'' => ?_, fun _ => ⟨hb, rfl⟩⟩
            simp only [Option.some.injEq] at h''
            subst h''
            exact ⟨hb1, hb2⟩
          · simp at h0
        · rename_i ks v hs h5
          rw [cond_eq_ite] at h0
          split at h0
          · simp at h0
          rename_i hinc
          simp only [Option.some.injEq] at h0
          subst h0
          have hp := under_ok hG (ho (.prop (under G (ReadCallC P Z (selH ks s.H) fid (first.toList ++ valsOf xs ++ cap.toList) v))) (by simp))
          refine hup _ (fun ob hob => ho ob (by simp only [List.mem_append] at hob ⊢; exact .inl hob)) (hp w hZ (hO.sel (by simpa using hinc))) fun e w' ⟨he, hb⟩ => ⟨v, he, hK _ _ w' hC ⟨Turn.below hO hb, fun _ h' => by simp at h', fun _ => ⟨hb, rfl⟩⟩⟩
        · rename_i ks v t ob' hs h5
          rw [cond_eq_ite] at h0
          split at h0
          · simp at h0
          rename_i hinc
          split at h0
          · rename_i hGn
            simp only [Option.some.injEq] at h0
            subst h0
            have hp := ho (.prop (NewCallC P Z (selH ks s.H) fid (first.toList ++ valsOf xs ++ cap.toList) v ob')) (by simp)
            refine hup _ (fun ob hob => ho ob (by simp only [List.mem_append] at hob ⊢; exact .inl hob)) (hp w hZ (hO.sel (by simpa using hinc))) fun e w' ⟨b, x, he, hb1, hb2, hb⟩ => ⟨v b x, he, ?_⟩
            obtain ⟨r', h', _, hC'⟩ := h (b, x)
            simp only [h1, h2, h3, h4, h5, hinc, cond_false] at h'
            simp only [Option.some.injEq] at h'
            subst h'
            refine hK (b, x) _ w' hC' ⟨Turn.below hO hb, fun ho' h'' => ?_, fun _ => ⟨hb, rfl⟩⟩
            simp only [Option.some.injEq] at h''
            subst h''
            exact ⟨hb1, hb2⟩
          · simp at h0
        · simp at h0
  · simp at h0

theorem evalOp0_ok (hP : Fine P) (hZ : Z w) (hA : Agrees n fr a) (hG : Gok G) (hO : Owns w s.H)
    (h : ∀ b, ∃ r, evalOp0 P Z b fr G o s pos = some r ∧ (∀ ob ∈ r.ob, ob.ok P) ∧ C b r)
    (hK : ∀ b r w', C b r → Eff o.op w w' s.H b r → K (a.put o.dst (valR r)) w') : o.wp P a w K Q := by
  unfold evalOp0 at h
  split at h
  · rename_i t x hop; exact evalLoad_ok hop hA hG hO (h _) hK
  · rename_i t x y hop; exact evalStore_ok hop hA hO (h _) hK
  · rename_i c x y hop; exact evalPick_ok hop hA hG hO (h _) hK
  · rename_i t x y yt hop
    by_cases hg : isAggV fr G x = true
    · simp only [hg, cond_true] at h
      exact evalEq_ok (neg := false) hop hA hG hO (h _) hK
    · simp only [hg, cond_false] at h
      by_cases hp : (isPtrV fr G x && isPtrV fr G y) = true
      · simp only [hp, cond_true] at h
        exact evalPEq_ok (neg := false) hop hA hG hO (h _) hK
      · simp only [hp, cond_false] at h
        exact evalGen_ok hA hG hO (fun cs b => by rw [hop]; simp) (h _) hK
  · rename_i t x y yt hop
    by_cases hg : isAggV fr G x = true
    · simp only [hg, cond_true] at h
      exact evalEq_ok (neg := true) hop hA hG hO (h _) hK
    · simp only [hg, cond_false] at h
      by_cases hp : (isPtrV fr G x && isPtrV fr G y) = true
      · simp only [hp, cond_true] at h
        exact evalPEq_ok (neg := true) hop hA hG hO (h _) hK
      · simp only [hp, cond_false] at h
        exact evalGen_ok hA hG hO (fun cs b => by rw [hop]; simp) (h _) hK
  · rename_i t x i hop; exact evalIx_ok hop hA hG hO (h _) hK
  · obtain ⟨r, h', _⟩ := h (0, 0); simp at h'
  · rename_i f args ats hop; exact evalCall_ok hP hZ hop hA hG hO h hK
  · rename_i _ _ _ _ _ _ hsel _
    exact evalGen_ok hA hG hO (fun cs b hb => hsel cs b hb) (h _) hK

theorem rd_op {g : Bool} {ks : List Nat} {v : Value} {t : Tag} {hs hs' : List Hint} {op : Op} (h : rdHint hs op = some (g, ks, v, t, hs')) : rdable op = true := by
  unfold rdHint at h
  split at h
  · rw [cond_eq_ite] at h
    split at h
    · rename_i hr
      exact hr
    · simp at h
  · rw [cond_eq_ite] at h
    split at h
    · rename_i hr
      exact hr
    · simp at h
  · simp at h

theorem as_op {v : Bool} {x : Operand} {hs hs' : List Hint} {op : Op} (h : asHint hs op = some (v, x, hs')) : op = .move x := by
  unfold asHint at h
  split at h
  · split at h
    · rw [cond_eq_ite] at h
      split at h
      · simp only [Option.some.injEq, Prod.mk.injEq] at h
        obtain ⟨_, rfl, _⟩ := h
        rfl
      · simp at h
    · simp at h
  · simp at h

theorem evalOp_ok (hP : Fine P) (hZ : Z w) (hA : Agrees n fr a) (hG : Gok G) (hO : Owns w s.H)
    (h : ∀ b, ∃ r, evalOp P Z b fr G o s pos = some r ∧ (∀ ob ∈ r.ob, ob.ok P) ∧ C b r)
    (hK : ∀ b r w', C b r → Eff o.op w w' s.H b r → K (a.put o.dst (valR r)) w') : o.wp P a w K Q := by
  unfold evalOp at h
  cases hr : rdHint s.hs o.op with
  | none =>
    simp only [hr] at h
    cases has : asHint s.hs o.op with
    | none =>
      simp only [has] at h
      exact evalOp0_ok (s := { s with hs := skTail s.hs o.op }) hP hZ hA hG hO h hK
    | some q =>
      obtain ⟨v, x, hs⟩ := q
      simp only [has] at h
      obtain ⟨r, h0, ho, hC⟩ := h (w.heap.size, 0)
      have hop := as_op has
      unfold evalAs at h0
      split at h0
      · simp at h0
      · split at h0
        · rename_i t tg ob hx
          simp only [Option.some.injEq] at h0
          subst h0
          have e1 := (opnd_ok (P := P) hA hG hx (fun x hx => ho x (by simp [hx]))).1
          have htv := ho (.bool t v) (by simp)
          simp only [Ob.ok] at htv
          subst htv
          refine wp_value (v := .bool t) (w' := w) ?_ (hK _ _ w hC (eff_same hO rfl rfl))
          simp only [execOp, hop, e1, Sem.run_pure]
        · simp at h0
  | some q =>
    obtain ⟨g, ks, v, t, hs⟩ := q
    simp only [hr] at h
    obtain ⟨r, h0, ho, hC⟩ := h (w.heap.size, 0)
    unfold evalRd at h0
    split at h0
    · rename_i xs ob hx
      rw [cond_eq_ite] at h0
      split at h0
      · simp at h0
      rename_i hinc
      simp only [Option.some.injEq] at h0
      subst h0
      have hvals := (opnds_ok (P := P) hA hG hx (fun x hx => ho x (by simp [hx]))).1
      have hp : ReadOp P Z (selH ks s.H) o (valsOf xs) v := by
        have := ho (.prop (under (bif g then G else none) (ReadOp P Z (selH ks s.H) o (valsOf xs) v))) (by simp)
        cases g with
        | true => exact under_ok hG this
        | false => exact this
      exact wp_value (hp a.eval hvals w hZ (hO.sel (by simpa using hinc))) (hK _ _ w hC (eff_same hO rfl rfl))
    · simp at h0
end
end Go.Proofs.Ytbbpmhbeohpmnaa.Rx
