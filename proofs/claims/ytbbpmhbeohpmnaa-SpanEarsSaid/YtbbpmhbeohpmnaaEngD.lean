/- The executor is sound: the main induction. -/
import Derived.Test.YtbbpmhbeohpmnaaEngC
namespace Go.Proofs.Ytbbpmhbeohpmnaa.Rx
open Go.RowKit
variable {P : Program} {Z : World → Prop}

theorem putAll_look (t : Nat) : ∀ (ent : List En) (fr : Fr),
    (∃ (q : Nat) (e : En), ent[q]? = some e ∧ e.dst = some t ∧ look (putAll ent fr) t = e.se) ∨ (look (putAll ent fr) t = look fr t ∧ ∀ (q : Nat) (e : En), ent[q]? = some e → e.dst ≠ some t)
  | [], fr => .inr ⟨rfl, fun q e h => by simp at h⟩
  | e :: r, fr => by
    simp only [putAll]
    rcases putAll_look t r (putF fr e.dst e.se) with ⟨q, e', h1, h2, h3⟩ | ⟨h1, h2⟩
    · exact .inl ⟨q + 1, e', by simpa using h1, h2, h3⟩
    · cases hd : e.dst with
      | none =>
        rw [hd] at h1
        refine .inr ⟨h1, fun q e' hq => ?_⟩
        cases q with
        | zero => simp only [List.getElem?_cons_zero, Option.some.injEq] at hq; subst hq; rw [hd]; simp
        | succ q => exact h2 q e' (by simpa using hq)
      | some d =>
        rw [hd] at h1
        simp only [putF, look_cons] at h1
        by_cases ht : t = d
        · rw [if_pos ht] at h1
          exact .inl ⟨0, e, by simp, by rw [hd, ht], by simp only [putF]; exact h1⟩
        · rw [if_neg ht] at h1
          refine .inr ⟨by simp only [putF]; exact h1, fun q e' hq => ?_⟩
          cases q with
          | zero => simp only [List.getElem?_cons_zero, Option.some.injEq] at hq; subst hq; rw [hd]; simp; exact fun h => ht h.symm
          | succ q => exact h2 q e' (by simpa using hq)

theorem PK_ret {fn : Func} {R : Ending → World → Prop} {body : Code} {a : Act} {w : World} : ∀ K, PK P fn R body K .ret a w = bodyPost P fn R .ret a w
  | [] => rfl
  | it :: K => by cases it <;> exact PK_ret K

theorem PK_exit {fn : Func} {R : Ending → World → Prop} {body : Code} {a : Act} {w : World} {id : Nat} : ∀ {K K' : List It}, dropTo id K = some K' → PK P fn R body K' .normal a w → PK P fn R body K (.exit id) a w
  | [], _, h, _ => by simp [dropTo] at h
  | it :: K, K', h, hk => by
    cases it with
    | blk j =>
      simp only [dropTo, cond_eq_ite, Nat.beq_eq] at h
      show Exit.inBlock j (PK P fn R body K) (.exit id) a w
      simp only [Exit.inBlock]
      split at h
      · rename_i hj
        rw [if_pos hj.symm]
        simp only [Option.some.injEq] at h
        exact h ▸ hk
      · rename_i hj
        rw [if_neg (fun e => hj e.symm)]
        exact PK_exit h hk
    | _ => exact PK_exit (K := K) h hk

theorem then_cons {fn : Func} {R : Ending → World → Prop} {body : Code} {p : List Nat} {K : List It} :
    Exit.then ((sub body p).wp P (PK P fn R body K)) (PK P fn R body K) = PK P fn R body (.c p :: K) := rfl

section
variable {R : Ending → World → Prop} {w0 : World} {D : List Nat} {fn0 : Func} {body0 : Code} {n0 : Nat} {fuel : Nat}
variable {cx : Cxt} {stk : List CFt} {s : St} {ν0 : Nat → Nat × Nat} {a : Act} {w : World} {R' : Ending → World → Prop}

theorem any_ok (hP : Fit P) (hZ : ∀ w, Far w0 D w → Z w) (hyp : Hyp P Z R w0 D fn0 body0 n0 fuel) (hR : Good P R stk R') (hA : Agrees cx.n cx.fr a) (hW : WI w0 D s.H w) (hB : Base fn0 body0 n0 cx stk) {p : List Nat} {i : Nat} {K : List It} (hK : cx.K = .any p i :: K)
    (h : ∀ ν, (∀ i, i < s.c → ν i = ν0 i) → ∃ ob st, stepAny P Z ν cx stk s p i K = some (ob, st) ∧ (∀ x ∈ ob, x.ok P) ∧ StOk P Z R w0 D fn0 body0 n0 ν fuel st) :
    PK P cx.fn R' cx.body cx.K .normal a w := by
  generalize hops : opsArr (sub cx.body p) = ops
  have hl : opsOf (sub cx.body p) = ops.toList := by rw [← hops, opsArr_toList]
  have hgoal : PK P cx.fn R' cx.body cx.K .normal a w = wpAny P .any ops (PK P cx.fn R' cx.body K) (ops.size - i) (upTo ops.size i) a w := by rw [hK, ← hops]; rfl
  unfold stepAny at h
  rw [hl] at h
  obtain ⟨ob0, st0, h0, _⟩ := h ν0 (fun _ _ => rfl)
  rw [cond_eq_ite] at h0
  split at h0
  · rename_i hreg
    simp only [hreg, cond_true] at h
    simp only [regionOk, Bool.and_eq_true] at hreg
    have hM := masks_of hreg.1
    cases hn : nth ops.toList i with
    | none =>
      simp only [hn] at h
      have hk := go_ok (hs := s.hs) hyp hR hA hW hB h
      rw [hgoal]
      rw [nth_eq, List.getElem?_eq_none_iff] at hn
      simp only [Array.length_toList] at hn
      rw [show ops.size - i = 0 by omega]
      refine ⟨?_, hk⟩
      rw [List.eq_nil_iff_forall_not_mem]
      intro j hj
      obtain ⟨o, h1, h2, _⟩ := mem_ready.1 hj
      have hj : j < ops.size := by
        rcases Nat.lt_or_ge j ops.size with h' | h'
        · exact h'
        · simp [Array.getElem?_eq_none h'] at h1
      rw [upTo_get, if_pos hj] at h2
      simp at h2
      omega
    | some o =>
      simp only [hn] at h
      rw [nth_eq] at hn
      have hil : i < ops.size := by
        rcases Nat.lt_or_ge i ops.toList.length with h' | h'
        · simpa using h'
        · simp [List.getElem?_eq_none h'] at hn
      generalize hN : plen ops.toList.length (ops.toList.drop i) ((befOf ops.toList).drop i) s.hs = N at *
      have hsp : ∀ ν es hs ob, phase P Z ν cx.n ops.toList (befOf ops.toList) cx.fr s.H s.c ops.toList.length i s.hs s.H.length 0 [] [] = some (es, hs, ob) →
          PhOk P Z cx.n ops.toList (befOf ops.toList) cx.fr s.H s.c i s.hs s.H.length ν N es ob ∧ hs = (stat (ops.toList.drop i) s.hs s.H.length N).1 := by
        intro ν es hs ob hp
        obtain ⟨ent, e1, e2, e3, _, e5⟩ := phase_spec _ _ _ _ _ _ _ _ _ _ hp
        rw [hN] at e2
        rw [List.nil_append] at e1
        subst e1
        rw [e2] at e3
        refine ⟨⟨e2, fun q hq => ?_⟩, e3⟩
        obtain ⟨o', msk, e, obq, f1, f2, f3, f4, f5, f6, f7⟩ := e5 q (by rw [e2]; exact hq)
        exact ⟨o', msk, e, obq, f1, f2, f3, by simpa using f4, f5, f6, by simpa using f7⟩
      cases N with
      | zero =>
        -- it stands alone
        have hal : ∀ ν, (∀ i, i < s.c → ν i = ν0 i) → alone (befOf ops.toList) i = true ∧ ∃ ob st, stepOps P Z (ν s.c) cx stk s ops.toList o (.any p (i + 1) :: K) = some (ob, st) ∧ (∀ x ∈ ob, x.ok P) ∧ StOk P Z R w0 D fn0 body0 n0 ν fuel st := by
          intro ν hν
          obtain ⟨ob, st, g1, g2, g3⟩ := h ν hν
          cases hp : phase P Z ν cx.n ops.toList (befOf ops.toList) cx.fr s.H s.c ops.toList.length i s.hs s.H.length 0 [] [] with
          | none => rw [hp] at g1; simp at g1
          | some q =>
            obtain ⟨es, hs, ob'⟩ := q
            have hlen := (hsp ν es hs ob' hp).1.len
            have : es = [] := List.eq_nil_of_length_eq_zero hlen
            subst this
            rw [hp] at g1
            simp only [cond_eq_ite] at g1
            split at g1
            · rename_i hal
              exact ⟨hal, ob, st, g1, g2, g3⟩
            · simp at g1
        have ha := (hal ν0 (fun _ _ => rfl)).1
        rcases stepOps_ok (Q := PK P cx.fn R' cx.body K) hP hZ hyp hR hA hW hB (fun ν hν => (hal ν hν).2) with hk | hk
        · exact hk
        · rw [hgoal]
          refine wpAny_alone hM hil ha ?_
          unfold wpOp
          rw [Array.getElem?_toList] at hn
          rw [hn]
          have hK' : ∀ a w, PK P cx.fn R' cx.body (.any p (i + 1) :: K) .normal a w = wpAny P .any ops (PK P cx.fn R' cx.body K) (ops.size - (i + 1)) (upTo ops.size (i + 1)) a w := fun a w => by rw [← hops]; rfl
          simp only [hK'] at hk
          exact hk
      | succ N =>
        have hph : ∀ ν, (∀ i, i < s.c → ν i = ν0 i) → alone (befOf ops.toList) (i + (N + 1)) = true ∧ ∃ ent obs, PhOk P Z cx.n ops.toList (befOf ops.toList) cx.fr s.H s.c i s.hs s.H.length ν (N + 1) ent obs ∧ (∀ x ∈ obs, x.ok P) ∧
            RunOk P Z R w0 D fn0 body0 n0 ν fuel { cx with fr := putAll ent cx.fr, K := .any p (i + (N + 1)) :: K } stk ⟨curL (fun _ => true) ent s.H, s.c + (N + 1), (stat (ops.toList.drop i) s.hs s.H.length (N + 1)).1⟩ := by
          intro ν hν
          obtain ⟨ob, st, g1, g2, g3⟩ := h ν hν
          cases hp : phase P Z ν cx.n ops.toList (befOf ops.toList) cx.fr s.H s.c ops.toList.length i s.hs s.H.length 0 [] [] with
          | none => rw [hp] at g1; simp at g1
          | some q =>
            obtain ⟨es, hs, ob'⟩ := q
            obtain ⟨hpk, hhs⟩ := hsp ν es hs ob' hp
            have hlen := hpk.len
            cases es with
            | nil => simp at hlen
            | cons e es =>
              rw [hp] at g1
              simp only [cond_eq_ite, hlen] at g1
              split at g1
              · rename_i hal
                simp only [Option.some.injEq, Prod.mk.injEq] at g1
                obtain ⟨rfl, rfl⟩ := g1
                rw [hhs] at g3
                exact ⟨hal, e :: es, _, hpk, g2, g3⟩
              · simp at g1
        obtain ⟨hal, ent0, obs0, hp0, _⟩ := hph ν0 (fun _ _ => rfl)
        have hle : i + (N + 1) ≤ ops.size := by
          obtain ⟨o', _, _, _, f1, _⟩ := hp0.ev N (by omega)
          rcases Nat.lt_or_ge (i + N) ops.toList.length with h' | h'
          · simp at h'; omega
          · simp [List.getElem?_eq_none h'] at f1
        have fi : ∀ (k : Nat) (e : En), ent0[k]? = some e → e.i = i + k := fun k e he => by obtain ⟨_, o, _, h, _⟩ := ph_get hp0 he; exact h
        rw [hgoal]
        have := phase_sound (Q := PK P cx.fn R' cx.body K) (w0 := w0) (D := D) hP.names hZ hM hreg.2 hle hal
          (C := fun ν ent => RunOk P Z R w0 D fn0 body0 n0 ν fuel { cx with fr := putAll ent cx.fr, K := .any p (i + (N + 1)) :: K } stk ⟨curL (fun _ => true) ent s.H, s.c + (N + 1), (stat (ops.toList.drop i) s.hs s.H.length (N + 1)).1⟩)
          ?_ (N + 1) (List.range (N + 1)) ν0 ent0 obs0 (upTo ops.size i) a w (by simp) List.nodup_range (fun q hq => by simpa using hq) (upTo_size _ _) ?_ ?_
          (fun ν h1 _ => (hph ν h1).2) hp0 ?_
        · rwa [show ops.size - (i + (N + 1)) + (N + 1) = ops.size - i by omega] at this
        · intro ν1 ent obs a' w' hpk hI hν
          have hgo : PK P cx.fn R' cx.body (.any p (i + (N + 1)) :: K) .normal a' w' = wpAny P .any ops (PK P cx.fn R' cx.body K) (ops.size - (i + (N + 1))) (upTo ops.size (i + (N + 1))) a' w' := by rw [← hops]; rfl
          rw [← hgo]
          have fi1 : ∀ (k : Nat) (e : En), ent[k]? = some e → e.i = i + k := fun k e he => by obtain ⟨_, o, _, h, _⟩ := ph_get hpk he; exact h
          refine hyp { cx with fr := putAll ent cx.fr, K := .any p (i + (N + 1)) :: K } stk ⟨curL (fun _ => true) ent s.H, s.c + (N + 1), (stat (ops.toList.drop i) s.hs s.H.length (N + 1)).1⟩ ν1 a' w' R' hR ?_ ?_ (base_same hB rfl rfl rfl) (fun ν hν' => ?_)
          · refine ⟨hI.defers, hI.size, fun t => ?_⟩
            rcases putAll_look t ent cx.fr with ⟨q, e, k1, k2, k3⟩ | ⟨k1, k2⟩
            · rw [k3]
              exact hI.done q e t (ph_get hpk k1).1 (by simp) k1 k2
            · rw [k1]
              refine hI.base t fun q o' hq _ ho hd => ?_
              have hq' : q < ent.length := by rw [hpk.len]; exact hq
              obtain ⟨_, o'', r1, _, r3, _⟩ := ph_get hpk (List.getElem?_eq_getElem hq')
              rw [ho] at r1
              obtain rfl := Option.some.inj r1
              exact k2 q _ (List.getElem?_eq_getElem hq') (r3.trans hd)
          · have := hI.world
            rw [show exB i [] = fun _ => true from funext fun j => by simp [exB]] at this
            exact this.toL
          · obtain ⟨ent', obs', t1, _, t3⟩ := hν ν hν'
            have : ent' = ent := by
              apply List.ext_getElem?
              intro q
              by_cases hq : q < N + 1
              · exact indep hM t1 hpk (fun _ => True) (fun _ _ _ _ _ _ => trivial) (fun q' hq' _ => hν' (s.c + q') (by show s.c + q' < s.c + (N + 1); omega)) q hq trivial
              · rw [List.getElem?_eq_none (by rw [t1.len]; omega), List.getElem?_eq_none (by rw [hpk.len]; omega)]
            rw [this] at t3
            exact t3
        · intro j hj
          rw [upTo_get, if_pos hj]
          simp only [decide_eq_true_eq, List.mem_range]
          constructor
          · exact .inl
          · rintro (h' | ⟨q, _, h1, h2⟩)
            · exact h'
            · exact absurd h1 h2
        · intro q m q' hq hU
          exact absurd (by simpa using hq) hU
        · refine ⟨hA.defers, hA.size, fun t _ => hA.slot t, fun q e t hq hU => absurd (by simpa using hq) hU, ?_⟩
          rw [curL_none ent0 s.H (fun e he => by
            obtain ⟨k, hk⟩ := List.mem_iff_getElem?.1 he
            rw [fi k e hk]
            have := (ph_get hp0 hk).1
            cases hx : exB i (List.range (N + 1)) (i + k) with
            | false => rfl
            | true => exact absurd (by simpa using this) (exB_iff.1 hx))]
          exact hW.toF
  · simp at h0

theorem upTo_zero (n : Nat) : upTo n 0 = Array.replicate n false := by
  apply listed_ext (by simp [upTo_size])
  intro j hj
  rw [upTo_size] at hj
  rw [upTo_get, if_pos hj]
  simp [Array.getD_eq_getD_getElem?, hj]

theorem WI.drew {w0 w : World} {D : List Nat} {H : List HE} (h : WI w0 D H w) (k : Nat) : WI w0 D H { w with drawn := k } :=
  ⟨h.owns, h.os, h.tape, h.output, h.size, h.far, h.near⟩

theorem run_sound (hP : Fit P) (hZ : ∀ w, Far w0 D w → Z w) : ∀ fuel, Hyp P Z R w0 D fn0 body0 n0 fuel := by
  intro fuel
  induction fuel with
  | zero =>
    intro cx stk s ν0 a w R' hR hA hW hB h
    obtain ⟨obs, out, h1, _⟩ := h ν0 (fun _ _ => rfl)
    simp [run] at h1
  | succ fuel hyp =>
    intro cx stk s ν0 a w R' hR hA hW hB h
    have h' : ∀ ν, (∀ i, i < s.c → ν i = ν0 i) → ∃ o st, stepC P Z ν cx stk s = some (o, st) ∧ (∀ x ∈ o, x.ok P) ∧ StOk P Z R w0 D fn0 body0 n0 ν fuel st := fun ν hν => step_of_run (h ν hν)
    clear h
    have hfin : (∀ ν, (∀ i, i < s.c → ν i = ν0 i) → ∃ o st, finish P cx stk s = some (o, st) ∧ (∀ x ∈ o, x.ok P) ∧ StOk P Z R w0 D fn0 body0 n0 ν fuel st) → bodyPost P cx.fn R' .ret a w := fun hh => by
      obtain ⟨g1, v, g2, g3⟩ := finish_ok hyp hR hA hW hB hh
      exact ⟨g1, v, g2, g3⟩
    have hgo : ∀ (hs : List Hint) (ob : List Ob) (K : List It), (∀ ν, (∀ i, i < s.c → ν i = ν0 i) → ∃ o st, goK cx stk { s with hs := hs } ob K = some (o, st) ∧ (∀ x ∈ o, x.ok P) ∧ StOk P Z R w0 D fn0 body0 n0 ν fuel st) → PK P cx.fn R' cx.body K .normal a w :=
      fun hs ob K hh => go_ok hyp hR hA hW hB hh
    cases hK : cx.K with
    | nil =>
      simp only [stepC, hK] at h'
      exact hfin h'
    | cons it K =>
      cases it with
      | blk id =>
        simp only [stepC, hK] at h'
        exact hgo s.hs [] K h'
      | goal T =>
        simp only [stepC, hK] at h'
        obtain ⟨o, st, h1, _, h3⟩ := h' ν0 (fun _ _ => rfl)
        have := stop_ok (hs := s.hs) hR hA hW hB h1 h3
        rwa [hK] at this
      | lp p n =>
        cases n with
        | zero =>
          simp only [stepC, hK] at h'
          obtain ⟨o, st, h1, _⟩ := h' ν0 (fun _ _ => rfl)
          simp at h1
        | succ n =>
          simp only [stepC, hK] at h'
          exact hgo s.hs [] (.c (0 :: p) :: .lp p n :: K) h'
      | any p i =>
        rw [← hK]
        simp only [stepC, hK] at h'
        exact any_ok hP hZ hyp hR hA hW hB hK h'
      | ops p i =>
        simp only [stepC, hK] at h'
        generalize hops : opsArr (sub cx.body p) = ops
        have hl : opsOf (sub cx.body p) = ops.toList := by rw [← hops, opsArr_toList]
        rw [hl] at h'
        have hgoal : PK P cx.fn R' cx.body (.ops p i :: K) .normal a w = wpList P ops (PK P cx.fn R' cx.body K) (ops.toList.drop i) a w := by rw [← hops]; rfl
        cases hn : nth ops.toList i with
        | none =>
          simp only [hn] at h'
          rw [hgoal]
          rw [nth_eq, List.getElem?_eq_none_iff] at hn
          rw [List.drop_eq_nil_of_le hn]
          exact hgo s.hs [] K h'
        | some o =>
          simp only [hn] at h'
          rw [nth_eq] at hn
          rcases stepOps_ok (Q := PK P cx.fn R' cx.body K) hP hZ hyp hR hA hW hB h' with hk | hk
          · rwa [hK] at hk
          · rw [hgoal, drop_cons hn]
            have hK' : ∀ a w, PK P cx.fn R' cx.body (.ops p (i + 1) :: K) .normal a w = wpList P ops (PK P cx.fn R' cx.body K) (ops.toList.drop (i + 1)) a w := fun a w => by rw [← hops]; rfl
            simp only [hK'] at hk
            exact hk
      | c p =>
        simp only [stepC, hK] at h'
        by_cases hcut : cutAt s.hs p = true
        · simp only [hcut, cond_true] at h'
          obtain ⟨o, st, h1, _, h3⟩ := h' ν0 (fun _ _ => rfl)
          have := stop_ok (hs := s.hs.tail) hR hA hW hB h1 h3
          rwa [hK] at this
        simp only [hcut, cond_false] at h'
        show (sub cx.body p).wp P (PK P cx.fn R' cx.body K) a w
        cases hc : sub cx.body p with
        | skip =>
          simp only [hc] at h'
          exact wp_skip (hgo s.hs [] K h')
        | label l =>
          simp only [hc] at h'
          exact wp_label (hgo s.hs [] K h')
        | seq x y =>
          simp only [hc] at h'
          have h1 := hgo s.hs [] (.c (0 :: p) :: .c (1 :: p) :: K) h'
          have e0 : sub cx.body (0 :: p) = x := by simp [sub, hc, child]
          have e1 : sub cx.body (1 :: p) = y := by simp [sub, hc, child]
          apply wp_seq
          have h2 : (sub cx.body (0 :: p)).wp P (PK P cx.fn R' cx.body (.c (1 :: p) :: K)) a w := h1
          rw [e0, ← then_cons, e1] at h2
          exact h2
        | cond c x y =>
          simp only [hc] at h'
          obtain ⟨o, st, h1, h2, _⟩ := h' ν0 (fun _ _ => rfl)
          split at h1
          · rename_i t tg ob cc v hs ho hh
            simp only [ho, hh] at h'
            simp only [goK, Option.some.injEq, Prod.mk.injEq] at h1
            obtain ⟨rfl, rfl⟩ := h1
            have htv : t = v := by
              have := h2 (bif cc then .syn t v else .bool t v) (by simp)
              cases cc <;> exact this
            subst htv
            have e := (opnd_ok hA (fun g hg => by simp at hg) ho (fun x hx => h2 x (by simp [hx]))).1
            have hk := hgo hs (ob ++ [bif cc then .syn t t else .bool t t]) (.c ((bif t then 0 else 1) :: p) :: K) h'
            refine wp_cond e ?_
            have e0 : sub cx.body (0 :: p) = x := by simp [sub, hc, child]
            have e1 : sub cx.body (1 :: p) = y := by simp [sub, hc, child]
            cases t with
            | true =>
              have h2 : (sub cx.body (0 :: p)).wp P (PK P cx.fn R' cx.body K) a w := hk
              rw [e0] at h2
              exact h2
            | false =>
              have h2 : (sub cx.body (1 :: p)).wp P (PK P cx.fn R' cx.body K) a w := hk
              rw [e1] at h2
              exact h2
          · simp at h1
        | block id b =>
          simp only [hc] at h'
          have h1 := hgo s.hs [] (.c (0 :: p) :: .blk id :: K) h'
          have e0 : sub cx.body (0 :: p) = b := by simp [sub, hc, child]
          apply wp_block
          have h2 : (sub cx.body (0 :: p)).wp P (PK P cx.fn R' cx.body (.blk id :: K)) a w := h1
          rw [e0] at h2
          exact h2
        | loop b =>
          simp only [hc] at h'
          cases hh : s.hs with
          | nil =>
            simp only [hh] at h'
            obtain ⟨o, st, h1, _, h3⟩ := h' ν0 (fun _ _ => rfl)
            have hk := stop_ok (hs := s.hs) hR hA hW hB h1 h3
            rw [hK] at hk
            have : (sub cx.body p).wp P (PK P cx.fn R' cx.body K) a w := hk
            rwa [hc] at this
          | cons x hs =>
            cases x with
            | go n =>
              simp only [hh] at h'
              have h1 := hgo hs [] (.lp p n :: K) h'
              have h2 : Code.rounds P (child 0 (sub cx.body p)) (PK P cx.fn R' cx.body K) n a w := h1
              have e0 : child 0 (sub cx.body p) = b := by rw [hc]; rfl
              rw [e0] at h2
              exact wp_loop_rounds n h2
            | _ =>
              simp only [hh] at h'
              obtain ⟨o, st, h1, _, h3⟩ := h' ν0 (fun _ _ => rfl)
              have hk := stop_ok (hs := s.hs) hR hA hW hB h1 h3
              rw [hK] at hk
              have : (sub cx.body p).wp P (PK P cx.fn R' cx.body K) a w := hk
              rwa [hc] at this
        | exit id =>
          simp only [hc] at h'
          cases hd : dropTo id K with
          | none =>
            simp only [hd] at h'
            obtain ⟨o, st, h1, _⟩ := h' ν0 (fun _ _ => rfl)
            simp at h1
          | some K' =>
            simp only [hd] at h'
            exact wp_exit (PK_exit hd (hgo s.hs [] K' h'))
        | ret =>
          simp only [hc] at h'
          exact wp_ret (by rw [PK_ret]; exact hfin h')
        | region id ops draw =>
          cases draw with
          | false =>
            simp only [hc] at h'
            have h1 := hgo s.hs [] (.ops p 0 :: K) h'
            apply wp_region_list
            have h2 : wpList P (opsArr (sub cx.body p)) (PK P cx.fn R' cx.body K) ((opsArr (sub cx.body p)).toList.drop 0) a w := h1
            rw [hc, List.drop_zero] at h2
            exact h2
          | true =>
            simp only [hc] at h'
            refine wp_region_any hP.mixed ?_
            have h1 : PK P cx.fn R' cx.body (.any p 0 :: K) .normal a { w with drawn := w.drawn + 1 } := by
              refine hyp { cx with K := .any p 0 :: K } stk s ν0 a _ R' hR hA (hW.drew _) (base_same hB rfl rfl rfl) (fun ν hν => ?_)
              obtain ⟨o, st, g1, _, g3⟩ := h' ν hν
              simp only [goK, Option.some.injEq, Prod.mk.injEq] at g1
              obtain ⟨_, rfl⟩ := g1
              exact g3
            have h2 : wpAny P .any (opsArr (sub cx.body p)) (PK P cx.fn R' cx.body K) ((opsArr (sub cx.body p)).size - 0) (upTo (opsArr (sub cx.body p)).size 0) a { w with drawn := w.drawn + 1 } := h1
            rw [hc, upTo_zero] at h2
            exact h2
        | _ =>
          simp only [hc] at h'
          obtain ⟨o, st, h1, _⟩ := h' ν0 (fun _ _ => rfl)
          simp at h1
end
end Go.Proofs.Ytbbpmhbeohpmnaa.Rx
