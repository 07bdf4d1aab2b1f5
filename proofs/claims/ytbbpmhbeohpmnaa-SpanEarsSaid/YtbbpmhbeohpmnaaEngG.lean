/- Runs with calls and operations met by their contracts, the rest of memory beside. -/
import Derived.Test.YtbbpmhbeohpmnaaEngF
namespace Go.Proofs.Ytbbpmhbeohpmnaa.Rx
open Go.RowKit
variable {P : Program}

abbrev Xi := Nat → Nat × Nat

/-- A call that turns what is known, and makes what it makes. -/
def TurnC (P : Program) (H : List HE) (f : FuncId) (args : List Value) (v : Xi → Value) (H' : Xi → List HE) : Prop :=
  ∀ w, Owns w H → Calls P f args.toArray w fun e w' => ∃ ξ, e = .returned (v ξ) ∧ WI w (blocksOf H) (H' ξ) w'

/-- An operation that turns what is known. -/
def OpC (P : Program) (o : Oper) (vs : List Value) (H : List HE) (v : Xi → Value) (H' : Xi → List HE) : Prop :=
  ∀ (ρ : Operand → Value), o.op.operands.toList.map ρ = vs → ∀ w, Owns w H →
    ∃ ξ w', ((execOp ρ o).run P w = .ok (.value (v ξ)) w' ∨ ((execOp ρ o).run P w = .ok .skip w' ∧ v ξ = undef)) ∧ WI w (blocksOf H) (H' ξ) w'

inductive Seg where
  | run
  | turn (ks : List Nat) (uF : Bool) (v : Xi → Value) (t : Nat → Tag) (os nw F' : Xi → List HE)
  | op (ks : List Nat) (uF : Bool) (v : Xi → Value) (t : Nat → Tag) (os nw F' : Xi → List HE)
  | re (H' F' : List HE) (ren : Nat → Nat)
  | say (d : Nat) (x : Value)
  | dep (f : (Nat → Xi) → Seg)

/-- What came up before. -/
def past (j : Nat) (νs : Nat → Xi) : Nat → Xi := fun i => bif Nat.blt i j then νs i else fun _ => (0, 0)

def setH : List Nat → List HE → List HE → List HE
  | k :: ks, o :: os, H => setH ks os (setNth H k o)
  | _, _, H => H

def inRange : List Nat → List HE → Bool
  | [], _ => true
  | k :: ks, H => isSomeB (nth H k) && inRange ks H

def sameLen {α β : Type} : List α → List β → Bool
  | [], [] => true
  | _ :: a, _ :: b => sameLen a b
  | _, _ => false

def reT1 (ren : Nat → Nat) : Tag → Tag
  | .loc p c o => .loc (ren p) c o
  | t => t
def reT (ren : Nat → Nat) : Tag → Tag
  | .many ts => .many (ts.map (reT1 ren))
  | t => reT1 ren t
def reSE (ren : Nat → Nat) : SE → SE
  | .val x => .val ⟨x.v, reT ren x.t⟩
  | .spec g x => .spec g ⟨x.v, reT ren x.t⟩
  | e => e
def reFr (ren : Nat → Nat) : Fr → Fr
  | [] => []
  | (i, e) :: r => (i, reSE ren e) :: reFr ren r

def opAt (body : Code) : List It → Option (List Oper × Oper × List It)
  | .ops p i :: K => match nth (opsOf (sub body p)) i with
    | some o => some (opsOf (sub body p), o, .ops p (i + 1) :: K)
    | none => none
  | .any p i :: K => bif regionOk (opsOf (sub body p)) && alone (befOf (opsOf (sub body p))) i then
      match nth (opsOf (sub body p)) i with
      | some o => some (opsOf (sub body p), o, .any p (i + 1) :: K)
      | none => none
    else none
  | _ => none

def sureG (ops : List Oper) (fr : Fr) (o : Oper) : Bool := match guardOf ops fr o [] with
  | .yes none => true
  | _ => false

def okSel (ks : List Nat) (H os : List HE) : Bool := incr ks && (inRange ks H && sameLen ks os)

structure S2 where
  cx : Cxt
  H : List HE
  F : List HE
  hs : List Hint

def pickF (uF : Bool) (F : List HE) : List HE := bif uF then F else []

def orF : Bool → List HE → List HE → List HE
  | true, F', _ => F'
  | false, _, F => F

def stepSeg (P : Program) (fuel : Nat) (h : Nat → Xi) (ξ : Xi) (s : S2) : Seg → Option (List Ob × S2)
  | .run => match Rx.run P (Beside s.H s.F) ξ fuel s.cx [] ⟨s.H, 0, s.hs⟩ [] with
    | some (ob, .stop K fr t) => some (ob, ⟨{ s.cx with K := K, fr := fr }, t.H, s.F, t.hs⟩)
    | _ => none
  | .turn ks uF v t os nw F' => match opAt s.cx.body s.cx.K with
    | none => none
    | some (ops, o, K') => bif sureG ops s.cx.fr o && (okDst s.cx.n o.dst && okSel ks s.H (os ξ)) then
      match o.op with
      | .call ⟨.value f, args, _⟩ => match opnd s.cx.fr none f, opnds s.cx.fr none args.toList with
        | some (⟨.func (.func fid) first cap, _⟩, o1), some (xs, o2) => match nth P.funcs.toList fid with
          | some fn => match fn.body with
            | some _ => some (o1 ++ o2 ++ [.prop (TurnC P (selH ks s.H ++ pickF uF s.F) fid (first.toList ++ valsOf xs ++ cap.toList) v (fun ξ => os ξ ++ nw ξ ++ pickF uF (F' ξ)))],
                ⟨{ s.cx with K := K', fr := putF s.cx.fr o.dst (.val ⟨v ξ, t s.H.length⟩) }, setH ks (os ξ) s.H ++ nw ξ, orF uF (F' ξ) s.F, s.hs⟩)
            | none => none
          | none => none
        | _, _ => none
      | _ => none
      else none
  | .op ks uF v t os nw F' => match opAt s.cx.body s.cx.K with
    | none => none
    | some (ops, o, K') => bif sureG ops s.cx.fr o && (okDst s.cx.n o.dst && okSel ks s.H (os ξ)) then
      match opnds s.cx.fr none o.op.operands.toList with
        | some (xs, o2) => some (o2 ++ [.prop (OpC P o (valsOf xs) (selH ks s.H ++ pickF uF s.F) v (fun ξ => os ξ ++ nw ξ ++ pickF uF (F' ξ)))],
                ⟨{ s.cx with K := K', fr := putF s.cx.fr o.dst (.val ⟨v ξ, t s.H.length⟩) }, setH ks (os ξ) s.H ++ nw ξ, orF uF (F' ξ) s.F, s.hs⟩)
        | none => none
      else none
  | .re H' F' ren => some ([.prop (((s.H ++ s.F).map HE.key).Perm ((H' ++ F').map HE.key))], ⟨{ s.cx with fr := reFr ren s.cx.fr }, H', F', s.hs⟩)
  | .say d x => match look s.cx.fr d with
    | .val y => some ([.prop (y.v = x)], { s with cx := { s.cx with fr := (d, .val ⟨x, y.t⟩) :: s.cx.fr } })
    | _ => none
  | .dep f => stepSeg P fuel h ξ s (f h)

def run2 (P : Program) (fuel : Nat) : List Seg → Nat → (Nat → Xi) → S2 → Option (List Ob × Out × List HE)
  | [], j, νs, s => match Rx.run P (Beside s.H s.F) (νs j) fuel s.cx [] ⟨s.H, 0, s.hs⟩ [] with
    | some (ob, out) => some (ob, out, s.F)
    | none => none
  | sg :: segs, j, νs, s => match stepSeg P fuel (past j νs) (νs j) s sg with
    | none => none
    | some (ob, s') => match run2 P fuel segs (j + 1) νs s' with
      | none => none
      | some (ob', out, F) => some (ob ++ ob', out, F)

/-! ### it is sound -/
def undep (h : Nat → Xi) : Seg → Seg
  | .dep f => undep h (f h)
  | sg => sg
theorem undep_not (h : Nat → Xi) : ∀ (sg : Seg) (f : (Nat → Xi) → Seg), undep h sg ≠ .dep f
  | .dep g, f => undep_not h (g h) f
  | .run, _ => by simp [undep]
  | .turn .., _ => by simp [undep]
  | .op .., _ => by simp [undep]
  | .re .., _ => by simp [undep]
  | .say .., _ => by simp [undep]
theorem undep_step (fuel : Nat) (h : Nat → Xi) (ξ : Xi) (s : S2) : ∀ sg : Seg, stepSeg P fuel h ξ s sg = stepSeg P fuel h ξ s (undep h sg)
  | .dep g => by simp only [stepSeg, undep]; exact undep_step fuel h ξ s (g h)
  | .run => rfl
  | .turn .. => rfl
  | .op .. => rfl
  | .re .. => rfl
  | .say .. => rfl

def keysF (A : List HE) : List (Nat × Obj × Bool) := (A.map HE.key).filter (fun k => k.2.2)

theorem keysF_append (A B : List HE) : keysF (A ++ B) = keysF A ++ keysF B := by simp [keysF]

theorem WI.alike {w0 w : World} {D : List Nat} {A B : List HE} (h : WI w0 D A w) (hp : (keysF A).Perm (keysF B)) : WI w0 D B w := by
  have hb : (blocksOf A).Perm (blocksOf B) := by
    rw [blocksOf_eq, blocksOf_eq]
    exact hp.map _
  refine ⟨⟨fun e he hf => ?_, hb.nodup_iff.1 h.owns.2⟩, h.os, h.tape, h.output, h.size, h.far, fun b hm => h.near b (hb.mem_iff.2 hm)⟩
  have : e.key ∈ keysF A := hp.mem_iff.2 (List.mem_filter.2 ⟨List.mem_map_of_mem he, hf⟩)
  obtain ⟨e', he', hk'⟩ := List.mem_map.1 (List.mem_filter.1 this).1
  simp only [HE.key, Prod.mk.injEq] at hk'
  rw [← hk'.1, ← hk'.2.1]
  exact h.owns.1 e' he' (by rw [hk'.2.2]; exact hf)

theorem keysF_set : ∀ (G : List HE) (k : Nat) (x : HE) {e : HE}, nth G k = some e → (keysF (setNth G k x)).Perm (keysF [x] ++ keysF (setNth G k hole))
  | [], _, _, _, h => by simp [nth] at h
  | a :: G, 0, x, _, _ => by
    simp only [setNth]
    have e1 : keysF (x :: G) = keysF [x] ++ keysF G := keysF_append [x] G
    have e2 : keysF (hole :: G) = keysF G := by rw [show hole :: G = [hole] ++ G from rfl, keysF_append]; rfl
    rw [e1, e2]
  | a :: G, k + 1, x, e, h => by
    have ih := keysF_set G k x (e := e) h
    simp only [setNth]
    refine perm_of_cnt fun y => ?_
    have := cnt_of_perm ih y
    have e1 : ∀ L, keysF (a :: L) = keysF [a] ++ keysF L := fun L => keysF_append [a] L
    rw [e1 (setNth G k x), e1 (setNth G k hole)]
    simp only [cnt_append] at this ⊢
    omega

theorem gsetNth_self : ∀ (G : List HE) (k : Nat) {e : HE}, nth G k = some e → setNth G k e = G
  | [], _, _, h => by simp [nth] at h
  | a :: G, 0, _, h => by simp only [nth, Option.some.injEq] at h; subst h; rfl
  | a :: G, k + 1, e, h => by simp only [setNth]; rw [gsetNth_self G k h]

theorem setNth_comm : ∀ (G : List HE) (j k : Nat) (x y : HE), j ≠ k → setNth (setNth G j x) k y = setNth (setNth G k y) j x
  | [], _, _, _, _, _ => rfl
  | a :: G, 0, 0, _, _, h => absurd rfl h
  | a :: G, 0, k + 1, _, _, _ => rfl
  | a :: G, j + 1, 0, _, _, _ => rfl
  | a :: G, j + 1, k + 1, x, y, h => by simp only [setNth]; rw [setNth_comm G j k x y (by omega)]

theorem gnth_setNth : ∀ (G : List HE) (j k : Nat) (x : HE), j ≠ k → nth (setNth G j x) k = nth G k
  | [], _, _, _, _ => rfl
  | a :: G, 0, 0, _, h => absurd rfl h
  | a :: G, 0, k + 1, _, _ => rfl
  | a :: G, j + 1, 0, _, _ => rfl
  | a :: G, j + 1, k + 1, x, h => by simp only [setNth, nth]; exact gnth_setNth G j k x (by omega)

theorem selH_set : ∀ (ks : List Nat) (H : List HE) (k : Nat) (x : HE), k ∉ ks → selH ks (setNth H k x) = selH ks H
  | [], _, _, _, _ => rfl
  | j :: ks, H, k, x, h => by
    simp only [List.mem_cons, not_or] at h
    simp only [selH, gnth_setNth H k j x h.1, selH_set ks H k x h.2]

theorem inRange_set : ∀ (ks : List Nat) (H : List HE) (k : Nat) (x : HE), k ∉ ks → inRange ks (setNth H k x) = inRange ks H
  | [], _, _, _, _ => rfl
  | j :: ks, H, k, x, h => by
    simp only [List.mem_cons, not_or] at h
    simp only [inRange, gnth_setNth H k j x h.1, inRange_set ks H k x h.2]

theorem setH_set : ∀ (ks : List Nat) (os H : List HE) (k : Nat) (x : HE), k ∉ ks → setH ks os (setNth H k x) = setNth (setH ks os H) k x
  | [], _, _, _, _, _ => rfl
  | _ :: _, [], _, _, _, _ => rfl
  | j :: ks, o :: os, H, k, x, h => by
    simp only [List.mem_cons, not_or] at h
    simp only [setH]
    rw [setNth_comm H k j x o h.1, setH_set ks os _ k x h.2]

theorem nth_setH : ∀ (ks : List Nat) (os H : List HE) (k : Nat), k ∉ ks → nth (setH ks os H) k = nth H k
  | [], _, _, _, _ => rfl
  | _ :: _, [], _, _, _ => rfl
  | j :: ks, o :: os, H, k, h => by
    simp only [List.mem_cons, not_or] at h
    simp only [setH]
    rw [nth_setH ks os _ k h.2, gnth_setNth H j k o (fun e => h.1 e.symm)]

theorem incr_lt : ∀ (k : Nat) (ks : List Nat), incr (k :: ks) = true → incr ks = true ∧ ∀ j ∈ ks, k < j
  | _, [], _ => ⟨rfl, by simp⟩
  | k, b :: r, h => by
    simp only [incr, Bool.and_eq_true] at h
    have hkb : k < b := by simpa [Nat.blt_eq] using h.1
    obtain ⟨_, h2⟩ := incr_lt b r h.2
    refine ⟨h.2, fun j hj => ?_⟩
    rcases List.mem_cons.1 hj with rfl | hj
    · exact hkb
    · have := h2 j hj; omega

theorem sel_rest : ∀ (ks : List Nat) (os H : List HE), incr ks = true → inRange ks H = true → sameLen ks os = true →
    ∃ rest, (keysF H).Perm (keysF (selH ks H) ++ keysF rest) ∧ (keysF (setH ks os H)).Perm (keysF os ++ keysF rest)
  | [], os, H, _, _, h3 => by
    cases os with
    | nil => exact ⟨H, by simp [selH, keysF], by simp [setH, keysF]⟩
    | cons _ _ => simp [sameLen] at h3
  | k :: ks, [], H, _, _, h3 => by simp [sameLen] at h3
  | k :: ks, o :: os, H, h1, h2, h3 => by
    obtain ⟨hi, hlt⟩ := incr_lt k ks h1
    have hk : k ∉ ks := fun hm => by have := hlt k hm; omega
    simp only [inRange, Bool.and_eq_true] at h2
    simp only [sameLen] at h3
    obtain ⟨e, he⟩ : ∃ e, nth H k = some e := by
      cases hn : nth H k with
      | none => rw [hn] at h2; simp [isSomeB] at h2
      | some e => exact ⟨e, rfl⟩
    obtain ⟨rest, q1, q2⟩ := sel_rest ks os (setNth H k hole) hi (by rw [inRange_set _ _ _ _ hk]; exact h2.2) h3
    refine ⟨rest, ?_, ?_⟩
    · have a1 := keysF_set H k e (e := e) he
      rw [gsetNth_self H k he] at a1
      rw [selH_set _ _ _ _ hk] at q1
      simp only [selH, he]
      refine perm_of_cnt fun y => ?_
      have b1 := cnt_of_perm a1 y
      have b2 := cnt_of_perm q1 y
      rw [show e :: selH ks H = [e] ++ selH ks H from rfl, keysF_append]
      simp only [cnt_append] at b1 b2 ⊢
      omega
    · simp only [setH]
      rw [setH_set _ _ _ _ _ hk] at q2 ⊢
      have a1 := keysF_set (setH ks os H) k o (e := e) (by rw [nth_setH _ _ _ _ hk]; exact he)
      refine perm_of_cnt fun y => ?_
      have b1 := cnt_of_perm a1 y
      have b2 := cnt_of_perm q2 y
      rw [show o :: os = [o] ++ os from rfl, keysF_append]
      simp only [cnt_append] at b1 b2 ⊢
      omega

theorem WI.part {w0 w : World} {D : List Nat} {H F : List HE} {ks : List Nat} {os : List HE} (uF : Bool) (h : WI w0 D (H ++ F) w) (hk : okSel ks H os = true) :
    Owns w (selH ks H ++ pickF uF F) ∧ ∀ {w' : World} {nw F' : List HE}, WI w (blocksOf (selH ks H ++ pickF uF F)) (os ++ nw ++ pickF uF F') w' → WI w0 D (setH ks os H ++ nw ++ orF uF F' F) w' := by
  simp only [okSel, Bool.and_eq_true] at hk
  obtain ⟨rest, q1, q2⟩ := sel_rest ks os H hk.1 hk.2.1 hk.2.2
  have h1 : WI w0 D ((selH ks H ++ pickF uF F) ++ (rest ++ pickF (!uF) F)) w := by
    refine h.alike (perm_of_cnt fun y => ?_)
    have b1 := cnt_of_perm q1 y
    cases uF <;> simp only [pickF, keysF_append, cnt_append, cond_true, cond_false, Bool.not_true, Bool.not_false, List.append_nil] at b1 ⊢ <;> omega
  refine ⟨h1.left, fun {w' nw F'} hc => ?_⟩
  refine (h1.call hc).alike (perm_of_cnt fun y => ?_)
  have b2 := cnt_of_perm q2 y
  cases uF <;> simp only [pickF, orF, keysF_append, cnt_append, cond_true, cond_false, Bool.not_true, Bool.not_false, List.append_nil] at b2 ⊢ <;> omega

theorem pk_at {fn : Func} {R : Ending → World → Prop} {body : Code} {n : Nat} {fr : Fr} {a : Act} {w : World} {K K' : List It} {ops : List Oper} {o : Oper}
    (h : opAt body K = some (ops, o, K')) (hA : Agrees n fr a) (hg : sureG ops fr o = true)
    (hwp : ∀ Q, o.wp P a w (fun a w => PK P fn R body K' .normal a w) Q) : PK P fn R body K .normal a w := by
  cases K with
  | nil => simp [opAt] at h
  | cons it K =>
    cases it with
    | ops p i =>
      simp only [opAt] at h
      generalize hops : opsArr (sub body p) = ar
      have hl : opsOf (sub body p) = ar.toList := by rw [← hops, opsArr_toList]
      rw [hl] at h
      cases hn : nth ar.toList i with
      | none => simp [hn] at h
      | some o' =>
        simp only [hn, Option.some.injEq, Prod.mk.injEq] at h
        obtain ⟨rfl, rfl, rfl⟩ := h
        have hgd := guard_ok (ops := ar) (o := o') (hs := []) hA
        unfold sureG at hg
        split at hg
        · rename_i hgy
          rw [hgy] at hgd
          have hgoal : PK P fn R body (.ops p i :: K) .normal a w = wpList P ar (PK P fn R body K) (ar.toList.drop i) a w := by rw [← hops]; rfl
          have hgoal' : ∀ a w, PK P fn R body (.ops p (i + 1) :: K) .normal a w = wpList P ar (PK P fn R body K) (ar.toList.drop (i + 1)) a w := fun a w => by rw [← hops]; rfl
          rw [nth_eq] at hn
          rw [hgoal, drop_cons hn]
          unfold wpList
          rw [if_pos hgd]
          left
          simp only [hgoal'] at hwp
          exact hwp _
        · simp at hg
    | any p i =>
      simp only [opAt] at h
      generalize hops : opsArr (sub body p) = ar
      have hl : opsOf (sub body p) = ar.toList := by rw [← hops, opsArr_toList]
      rw [hl] at h
      rw [cond_eq_ite] at h
      split at h
      · rename_i hreg
        simp only [Bool.and_eq_true] at hreg
        cases hn : nth ar.toList i with
        | none => simp [hn] at h
        | some o' =>
          simp only [hn, Option.some.injEq, Prod.mk.injEq] at h
          obtain ⟨rfl, rfl, rfl⟩ := h
          have hgd := guard_ok (ops := ar) (o := o') (hs := []) hA
          unfold sureG at hg
          split at hg
          · rename_i hgy
            rw [hgy] at hgd
            have hgoal : PK P fn R body (.any p i :: K) .normal a w = wpAny P .any ar (PK P fn R body K) (ar.size - i) (upTo ar.size i) a w := by rw [← hops]; rfl
            have hgoal' : ∀ a w, PK P fn R body (.any p (i + 1) :: K) .normal a w = wpAny P .any ar (PK P fn R body K) (ar.size - (i + 1)) (upTo ar.size (i + 1)) a w := fun a w => by rw [← hops]; rfl
            have hreg1 := hreg.1
            simp only [regionOk, Bool.and_eq_true] at hreg1
            have hM := masks_of hreg1.1
            rw [nth_eq] at hn
            have hil : i < ar.size := by
              rcases Nat.lt_or_ge i ar.toList.length with h' | h'
              · simpa using h'
              · simp [List.getElem?_eq_none h'] at hn
            rw [hgoal]
            refine wpAny_alone hM hil hreg.2 ?_
            unfold wpOp
            rw [Array.getElem?_toList] at hn
            rw [hn]
            simp only []
            rw [if_pos hgd]
            left
            simp only [hgoal'] at hwp
            exact hwp _
          · simp at hg
      · simp at h
    | _ => simp [opAt] at h

theorem frBare_re (ren : Nat → Nat) : ∀ fr : Fr, frBare (reFr ren fr) = frBare fr
  | [] => rfl
  | (i, e) :: r => by
    simp only [reFr, frBare, frBare_re ren r]
    cases e <;> rfl

theorem sel_call (hP : Fit P) {fid : FuncId} {fn' : Func} {b' : Code} {a : Act} {n : Nat} {fr : Fr} {w : World} {o : Oper} {f : Operand} {args : Array Operand} {ats : Array TypeId} {first cap : Array Value} {tg : Tag} {xs : List TV} {o1 o2 : List Ob}
    {K : Act → World → Prop} {Q : Exit → Act → World → Prop}
    (hop : o.op = .call ⟨.value f, args, ats⟩) (hA : Agrees n fr a) (hf : opnd fr none f = some (⟨.func (.func fid) first cap, tg⟩, o1)) (hx : opnds fr none args.toList = some (xs, o2)) (h1 : ∀ x ∈ o1, x.ok P) (h2 : ∀ x ∈ o2, x.ok P)
    (hfn : P.funcs[fid]? = some fn') (hb : fn'.body = some b')
    (hc : Calls P fid (first.toList ++ valsOf xs ++ cap.toList).toArray w fun e w' => ∃ v, e = .returned v ∧ K (a.put o.dst v) w') : o.wp P a w K Q := by
  have hG : Gok none := fun g hg => by simp at hg
  have q1 := (opnd_ok (P := P) hA hG hf h1).1
  have q2 := (opnds_ok (P := P) hA hG hx h2).1
  have hrun : (execOp a.eval o).run P w = .ok (.enter fid (first.toList ++ valsOf xs ++ cap.toList).toArray) w := by
    simp only [execOp, hop, resolve, q1, Deferred.ofValue, Sem.run_bind, Sem.run_pure, Result.andThen_ok, invoke]
    rw [run_callFunc hP.names hfn hb]
    congr 2
    apply Array.ext'
    simp [← q2]
  unfold Oper.wp
  rw [hrun]
  refine hc.mono fun e w' ⟨v, he, hk⟩ => ?_
  subst he
  exact hk

section
variable (P : Program) (R : Ending → World → Prop) (w0 : World) (D : List Nat) (fn0 : Func) (body0 : Code) (n0 : Nat)
def OutOk2 (F : List HE) : Out → Prop
  | .ret x s => ∀ w, WI w0 D (s.H ++ F) w → R (.returned x.v) w
  | .stop K fr s => ∀ a w, Agrees n0 fr a → WI w0 D (s.H ++ F) w → PK P fn0 R body0 K .normal a w
end

theorem run2_sound (hP : Fit P) {R : Ending → World → Prop} {w0 : World} {D : List Nat} (fuel : Nat) : ∀ (segs : List Seg) (j : Nat) (νs0 : Nat → Xi) (s : S2) (a : Act) (w : World),
    Agrees s.cx.n s.cx.fr a → WI w0 D (s.H ++ s.F) w →
    (∀ νs, (∀ i, i < j → νs i = νs0 i) → ∃ obs out F, run2 P fuel segs j νs s = some (obs, out, F) ∧ (∀ o ∈ obs, o.ok P) ∧ OutOk2 P R w0 D s.cx.fn s.cx.body s.cx.n F out) →
    PK P s.cx.fn R s.cx.body s.cx.K .normal a w := by
  intro segs
  induction segs with
  | nil =>
    intro j νs0 s a w hA hW h
    refine run_sound (R := R) (w0 := w) (D := blocksOf s.H) (fn0 := s.cx.fn) (body0 := s.cx.body) (n0 := s.cx.n) (Z := Beside s.H s.F) hP (fun w' hw' => frame_far hW.owns hw') fuel s.cx [] ⟨s.H, 0, s.hs⟩ (fun _ => (0, 0)) a w R rfl hA (WI.start hW.left) ⟨rfl, rfl, rfl⟩ (fun ν _ => ?_)
    obtain ⟨obs, out, F, h1, h2, h3⟩ := h (fun i => if i = j then ν else νs0 i) (fun i hi => if_neg (by omega))
    simp only [run2, if_true] at h1
    cases hr : Rx.run P (Beside s.H s.F) ν fuel s.cx [] ⟨s.H, 0, s.hs⟩ [] with
    | none => simp [hr] at h1
    | some q =>
      obtain ⟨ob, o⟩ := q
      simp only [hr, Option.some.injEq, Prod.mk.injEq] at h1
      obtain ⟨rfl, rfl, rfl⟩ := h1
      refine ⟨ob, o, hr, h2, ?_⟩
      cases o with
      | ret x t => exact fun w' hw' => h3 w' (hW.call hw')
      | stop K fr t => exact fun a' w' hA' hw' => h3 a' w' hA' (hW.call hw')
  | cons sg segs ih =>
    intro j νs0 s a w hA hW h
    have hpast : ∀ νs : Nat → Xi, (∀ i, i < j → νs i = νs0 i) → past j νs = past j νs0 := by
      intro νs hν
      funext i
      unfold past
      cases hb : Nat.blt i j with
      | false => rfl
      | true => rw [cond_true, cond_true]; exact hν i (by simpa [Nat.blt_eq] using hb)
    generalize past j νs0 = h0 at hpast
    have hnd := undep_not h0 sg
    have hst := fun ξ => undep_step (P := P) fuel h0 ξ s sg
    -- the rest, from a state that a segment comes to
    have next : ∀ (ξ : Xi) (ob : List Ob) (s' : S2) (a' : Act) (w' : World), stepSeg P fuel h0 ξ s (undep h0 sg) = some (ob, s') → s'.cx.fn = s.cx.fn → s'.cx.body = s.cx.body → s'.cx.n = s.cx.n →
        Agrees s'.cx.n s'.cx.fr a' → WI w0 D (s'.H ++ s'.F) w' → PK P s.cx.fn R s.cx.body s'.cx.K .normal a' w' := by
      intro ξ ob s' a' w' hs e1 e2 e3 hA' hW'
      rw [← e1, ← e2]
      refine ih (j + 1) (fun i => if i = j then ξ else νs0 i) s' a' w' hA' hW' fun νs hν => ?_
      obtain ⟨obs, out, F, h1, h2, h3⟩ := h νs (fun i hi => by rw [hν i (by omega)]; exact if_neg (by omega))
      have hj : νs j = ξ := by rw [hν j (by omega)]; simp
      simp only [run2, hpast νs (fun i hi => by rw [hν i (by omega)]; exact if_neg (by omega)), hj, hst, hs] at h1
      cases hr : run2 P fuel segs (j + 1) νs s' with
      | none => simp [hr] at h1
      | some q =>
        obtain ⟨ob', o', F'⟩ := q
        simp only [hr, Option.some.injEq, Prod.mk.injEq] at h1
        obtain ⟨rfl, rfl, rfl⟩ := h1
        refine ⟨ob', o', F', rfl, fun x hx => h2 x (by simp [hx]), ?_⟩
        rw [e1, e2, e3]
        exact h3
    have obsOk : ∀ ξ, ∃ ob s', stepSeg P fuel h0 ξ s (undep h0 sg) = some (ob, s') ∧ ∀ o ∈ ob, o.ok P := by
      intro ξ
      obtain ⟨obs, out, F, h1, h2, h3⟩ := h (fun i => if i = j then ξ else νs0 i) (fun i hi => if_neg (by omega))
      simp only [run2, if_true, hpast (fun i => if i = j then ξ else νs0 i) (fun i hi => if_neg (by omega)), hst] at h1
      cases hs : stepSeg P fuel h0 ξ s (undep h0 sg) with
      | none => simp [hs] at h1
      | some q =>
        obtain ⟨ob, s'⟩ := q
        simp only [hs] at h1
        split at h1
        · simp at h1
        · simp only [Option.some.injEq, Prod.mk.injEq] at h1
          obtain ⟨rfl, _, _⟩ := h1
          exact ⟨ob, s', rfl, fun x hx => h2 x (by simp [hx])⟩
    clear hst
    generalize undep h0 sg = sg at next obsOk hnd
    cases sg with
    | dep f => exact absurd rfl (hnd f)
    | run =>
      refine run_sound (R := R) (w0 := w) (D := blocksOf s.H) (fn0 := s.cx.fn) (body0 := s.cx.body) (n0 := s.cx.n) (Z := Beside s.H s.F) hP (fun w' hw' => frame_far hW.owns hw') fuel s.cx [] ⟨s.H, 0, s.hs⟩ (fun _ => (0, 0)) a w R rfl hA (WI.start hW.left) ⟨rfl, rfl, rfl⟩ (fun ν _ => ?_)
      obtain ⟨ob, s', hs, hok⟩ := obsOk ν
      have hs' := hs
      simp only [stepSeg] at hs'
      split at hs'
      · rename_i ob' K fr t hr
        simp only [Option.some.injEq, Prod.mk.injEq] at hs'
        obtain ⟨rfl, rfl⟩ := hs'
        refine ⟨ob', .stop K fr t, hr, hok, fun a' w' hA' hw' => ?_⟩
        exact next ν ob' _ a' w' hs rfl rfl rfl hA' (hW.call hw')
      · simp at hs'
    | turn ks uF v t os nw F' =>
      obtain ⟨ob, s', hs, hok⟩ := obsOk (fun _ => (0, 0))
      simp only [stepSeg] at hs
      cases hop : opAt s.cx.body s.cx.K with
      | none => simp [hop] at hs
      | some q =>
        obtain ⟨ops, o, K'⟩ := q
        simp only [hop, cond_eq_ite] at hs
        split at hs
        · rename_i hc
          simp only [Bool.and_eq_true] at hc
          split at hs
          · rename_i f args ats hcall
            split at hs
            · rename_i fid first cap tg o1 xs o2 hf hx
              cases hfn : nth P.funcs.toList fid with
              | none => simp [hfn] at hs
              | some fn' =>
                simp only [hfn] at hs
                cases hb : fn'.body with
                | none => simp [hb] at hs
                | some b' =>
                  simp only [hb, Option.some.injEq, Prod.mk.injEq] at hs
                  obtain ⟨rfl, rfl⟩ := hs
                  have hT := hok _ (List.mem_append_right _ (List.mem_singleton.2 rfl))
                  simp only [Ob.ok] at hT
                  have hp := hW.part uF hc.2.2
                  refine pk_at hop hA hc.1 fun Q => ?_
                  refine sel_call hP (b' := b') hcall hA hf hx (fun x hx => hok x (by simp [hx])) (fun x hx => hok x (by simp [hx])) (by rw [nth_eq, Array.getElem?_toList] at hfn; exact hfn) hb ?_
                  refine (hT w hp.1).mono fun e w' ⟨ξ, he, hw'⟩ => ⟨v ξ, he, ?_⟩
                  obtain ⟨ob2, s2, hs2, hok2⟩ := obsOk ξ
                  have hs3 := hs2
                  simp only [stepSeg, hop, cond_eq_ite] at hs3
                  split at hs3
                  · rename_i hc2
                    simp only [Bool.and_eq_true] at hc2
                    simp only [hcall, hf, hx, hfn, hb, Option.some.injEq, Prod.mk.injEq] at hs3
                    obtain ⟨_, rfl⟩ := hs3
                    have hk := next ξ ob2 _ (a.put o.dst (v ξ)) w' hs2 rfl rfl rfl (hA.put (se := .val ⟨v ξ, t s.H.length⟩) hc.2.1 rfl) ((hW.part uF hc2.2.2).2 hw')
                    exact hk
                  · simp at hs3
            · simp at hs
          · simp at hs
        · simp at hs
    | op ks uF v t os nw F' =>
      obtain ⟨ob, s', hs, hok⟩ := obsOk (fun _ => (0, 0))
      simp only [stepSeg] at hs
      cases hop : opAt s.cx.body s.cx.K with
      | none => simp [hop] at hs
      | some q =>
        obtain ⟨ops, o, K'⟩ := q
        simp only [hop, cond_eq_ite] at hs
        split at hs
        · rename_i hc
          simp only [Bool.and_eq_true] at hc
          cases hx : opnds s.cx.fr none o.op.operands.toList with
          | none => simp [hx] at hs
          | some q =>
            obtain ⟨xs, o2⟩ := q
            simp only [hx, Option.some.injEq, Prod.mk.injEq] at hs
            obtain ⟨rfl, rfl⟩ := hs
            have hT := hok _ (List.mem_append_right _ (List.mem_singleton.2 rfl))
            simp only [Ob.ok] at hT
            have hp := hW.part uF hc.2.2
            have hvals := (opnds_ok (P := P) hA (fun g hg => by simp at hg) hx (fun x hx => hok x (by simp [hx]))).1
            refine pk_at hop hA hc.1 fun Q => ?_
            obtain ⟨ξ, w', hr, hw'⟩ := hT a.eval hvals w hp.1
            obtain ⟨ob2, s2, hs2, hok2⟩ := obsOk ξ
            have hs3 := hs2
            simp only [stepSeg, hop, cond_eq_ite] at hs3
            split at hs3
            · rename_i hc2
              simp only [Bool.and_eq_true] at hc2
              simp only [hx, Option.some.injEq, Prod.mk.injEq] at hs3
              obtain ⟨_, rfl⟩ := hs3
              have hk := next ξ ob2 _ (a.put o.dst (v ξ)) w' hs2 rfl rfl rfl (hA.put (se := .val ⟨v ξ, t s.H.length⟩) hc.2.1 rfl) ((hW.part uF hc2.2.2).2 hw')
              rcases hr with hr | ⟨hr, hu⟩
              · exact wp_value hr hk
              · rw [hu] at hk
                exact wp_skip' hr hk
            · simp at hs3
        · simp at hs
    | re H' F' ren =>
      obtain ⟨ob, s', hs, hok⟩ := obsOk (fun _ => (0, 0))
      have hs2 := hs
      simp only [stepSeg, Option.some.injEq, Prod.mk.injEq] at hs
      obtain ⟨hob, hss⟩ := hs
      subst hob
      subst hss
      have hT := hok _ (List.mem_singleton.2 rfl)
      simp only [Ob.ok] at hT
      exact next (fun _ => (0, 0)) [.prop (((s.H ++ s.F).map HE.key).Perm ((H' ++ F').map HE.key))] ⟨{ s.cx with fr := reFr ren s.cx.fr }, H', F', s.hs⟩ a w hs2 rfl rfl rfl (hA.like (frBare_re ren _).symm) (hW.like hT)
    | say d x =>
      obtain ⟨ob, s', hs, hok⟩ := obsOk (fun _ => (0, 0))
      have hs2 := hs
      simp only [stepSeg] at hs
      split at hs
      · rename_i y hl
        simp only [Option.some.injEq, Prod.mk.injEq] at hs
        obtain ⟨hob, hss⟩ := hs
        subst hob
        subst hss
        have hT := hok _ (List.mem_singleton.2 rfl)
        simp only [Ob.ok] at hT
        have hsl := hA.slot d
        rw [hl] at hsl
        refine next (fun _ => (0, 0)) [.prop (y.v = x)] { s with cx := { s.cx with fr := (d, .val ⟨x, y.t⟩) :: s.cx.fr } } a w hs2 rfl rfl rfl (hA.know (d := d) (se := .val ⟨x, y.t⟩) ?_) hW
        subst hT
        exact hsl
      · simp at hs

/-! ### in use -/
inductive OutW where
  | ret (v : Value) (L : List (Nat × Obj)) (F : List HE)
  | stop (K : List It) (fr : Fr) (H F : List HE)

structure View2 where
  ts : List Bool
  ds : List Bool
  ps : List Prop
  out : OutW

def viewW (mask : List Bool) (sl : List Nat) (F : List HE) : Out → OutW
  | .ret x s => .ret x.v (facts (pick mask s.H)) F
  | .stop K fr s => .stop K (slots fr sl) (pick mask s.H) F

def fin2 (S : List TypeId) (mask : List Bool) (sl : List Nat) : Option (List Ob × Out × List HE) → Bool × List (Addr × Bool) × View2
  | none => (false, [], ⟨[], [], [], .ret undef [] []⟩)
  | some r => (allIn S (safes r.1), synL r.1, ⟨tests r.1, truths r.1, props r.1, viewW mask sl r.2.2 r.2.1⟩)

def synR2 : Option (List Ob × Out × List HE) → List (Addr × Bool)
  | none => []
  | some r => synR r.1

def OutW.ok (P : Program) (fn : Func) (R : Ending → World → Prop) (body : Code) (n : Nat) (w0 : World) (D : List Nat) : OutW → Prop
  | .ret v L F => ∀ w, (∀ H, facts H = L → WI w0 D (H ++ F) w) → R (.returned v) w
  | .stop K fr H F => ∀ a w, Agrees n fr a → WI w0 D (H ++ F) w → PK P fn R body K .normal a w

theorem facts_keys : ∀ {A B : List HE}, facts A = facts B → keysF A = keysF B := by
  have key : ∀ A : List HE, keysF A = (facts A).map fun q => (q.1, q.2, true) := by
    intro A
    induction A with
    | nil => rfl
    | cons e r ih =>
      rw [show e :: r = [e] ++ r from rfl, keysF_append, ih]
      simp only [List.cons_append, List.nil_append, facts]
      cases h : e.o <;> simp [keysF, HE.key, h, HO.full]
  intro A B h
  rw [key, key, h]

theorem pk_run2 (hP : Fit P) {S : List TypeId} (hS : SafeAll P S) {fn : Func} {R : Ending → World → Prop} {body : Code} {n : Nat} {w0 w : World} {D : List Nat} {a : Act}
    {K : List It} {fr : Fr} {H F : List HE} (fuel : Nat) (hs : List Hint) (segs : List Seg) (mask : List Bool) (sl : List Nat) (V : (Nat → Xi) → View2)
    (hA : Agrees n fr a) (hW : WI w0 D (H ++ F) w)
    (hrun : ∀ νs, fin2 S mask sl (run2 P fuel segs 0 νs ⟨⟨fn, body, n, K, fr⟩, H, F, hs⟩) = (true, synR2 (run2 P fuel segs 0 νs ⟨⟨fn, body, n, K, fr⟩, H, F, hs⟩), V νs))
    (hts : ∀ νs, (V νs).ts = (V νs).ds) (hps : ∀ νs, All (V νs).ps) (hout : ∀ νs, (V νs).out.ok P fn R body n w0 D) :
    PK P fn R body K .normal a w := by
  refine run2_sound (R := R) (w0 := w0) (D := D) hP fuel segs 0 (fun _ _ => (0, 0)) ⟨⟨fn, body, n, K, fr⟩, H, F, hs⟩ a w hA hW fun νs _ => ?_
  have h := hrun νs
  cases hr : run2 P fuel segs 0 νs ⟨⟨fn, body, n, K, fr⟩, H, F, hs⟩ with
  | none => rw [hr] at h; simp [fin2] at h
  | some r =>
    obtain ⟨obs, out, F'⟩ := r
    rw [hr] at h
    simp only [fin2, synR2, Prod.mk.injEq] at h
    obtain ⟨h1, h2, h3⟩ := h
    have e1 := hts νs
    have e2 := hps νs
    have e3 := hout νs
    rw [← h3] at e1 e2 e3
    refine ⟨obs, out, F', rfl, obs_ok hS obs h1 h2 e1 e2, ?_⟩
    cases out with
    | ret x s =>
      refine fun w' hw' => e3 w' fun H' hH' => ?_
      have hsub : WI w0 D (pick mask s.H ++ F') w' := hw'.sub ((pick_sub _ _).append (List.Sublist.refl _))
      refine hsub.alike ?_
      rw [keysF_append, keysF_append, facts_keys hH']
    | stop K' fr' s => exact fun a' w' hA' hw' => e3 a' w' (hA'.slots sl) (hw'.sub ((pick_sub _ _).append (List.Sublist.refl _)))

/-! ### contracts turned -/
theorem Turns.c {H : List HE} {f : FuncId} {args : List Value} {v : Value} {H' : List HE} (h : Turns P H f args v H') : TurnC P H f args (fun _ => v) (fun _ => H') :=
  fun w hO => (h w hO).mono fun _e _w' ⟨h1, h2⟩ => ⟨fun _ => (0, 0), h1, h2⟩

theorem ReadCall.c {H : List HE} {f : FuncId} {args : List Value} {v : Value} (h : ReadCall P H f args v) : TurnC P H f args (fun _ => v) (fun _ => H) :=
  fun w hO => (h w hO).mono fun _e _w' ⟨h1, h2⟩ => ⟨fun _ => (0, 0), h1, (WI.start hO).below h2⟩

theorem TurnC.turns {H : List HE} {f : FuncId} {args : List Value} {v : Value} {H' : List HE} (h : TurnC P H f args (fun _ => v) (fun _ => H')) : Turns P H f args v H' :=
  fun w hO => (h w hO).mono fun _e _w' ⟨_, h1, h2⟩ => ⟨h1, h2⟩

/-- The same memory in another order, on either side. -/
theorem TurnC.like {A B : List HE} {f : FuncId} {args : List Value} {v : Xi → Value} {A' B' : Xi → List HE} (h : TurnC P A f args v A') (hp : (A.map HE.key).Perm (B.map HE.key)) (hp' : ∀ ξ, ((A' ξ).map HE.key).Perm ((B' ξ).map HE.key)) : TurnC P B f args v B' := by
  intro w hO
  refine (h w (hO.like hp.symm)).mono fun e w' ⟨ξ, h1, h2⟩ => ⟨ξ, h1, ?_⟩
  have hb : ∀ b, b ∈ blocksOf A ↔ b ∈ blocksOf B := fun b => by
    rw [blocksOf_eq, blocksOf_eq]
    exact ((hp.filter _).map _).mem_iff
  have := h2.like (hp' ξ)
  exact ⟨this.owns, this.os, this.tape, this.output, this.size, fun k hk hd => this.far k hk (fun hm => hd ((hb k).1 hm)), fun b hm => (this.near b hm).imp (hb b).1 id⟩

/-- A call that one run shows. -/
theorem turn_run2 (hP : Fit P) {S : List TypeId} (hS : SafeAll P S) {f : FuncId} {fn : Func} {body : Code} (hf : P.funcs[f]? = some fn) (hb : fn.body = some body)
    (ys : List TV) (H F : List HE) (fuel : Nat) (hs : List Hint) (segs : List Seg) (mask : List Bool) (ts ds : List Bool) (ps : (Nat → Xi) → List Prop) {v : Value} {H' F' : List HE}
    (hrun : ∀ νs, fin2 S mask [] (run2 P fuel segs 0 νs ⟨⟨fn, body, ys.length + (fn.ntmps - ys.length), [.c []], enum 0 ys⟩, H, F, hs⟩) =
      (true, synR2 (run2 P fuel segs 0 νs ⟨⟨fn, body, ys.length + (fn.ntmps - ys.length), [.c []], enum 0 ys⟩, H, F, hs⟩), ⟨ts, ds, ps νs, .ret v (facts H') F'⟩))
    (hts : ts = ds) (hps : ∀ νs, All (ps νs)) : Turns P (H ++ F) f (valsOf ys) v (H' ++ F') := fun _w hO =>
  calls_pk hf hb fun _ hA => pk_run2 hP hS fuel hs segs mask [] (fun νs => ⟨ts, ds, ps νs, .ret v (facts H') F'⟩) hA (WI.start hO) hrun (fun _ => hts) hps (fun _ _w' h => ⟨rfl, h H' rfl⟩)

/-! ### operations -/
theorem WI.frame {w0 w : World} {A B F : List HE} (hO : Owns w0 (A ++ F)) (h : WI w0 (blocksOf A) B w) : WI w0 (blocksOf (A ++ F)) (B ++ F) w := (WI.start hO).call h

theorem OpC.frame {o : Oper} {vs : List Value} {H : List HE} {v : Xi → Value} {H' : Xi → List HE} (h : OpC P o vs H v H') (F : List HE) : OpC P o vs (H ++ F) v (fun ξ => H' ξ ++ F) := by
  intro ρ hρ w hO
  obtain ⟨ξ, w', h1, h2⟩ := h ρ hρ w (WI.start hO).left
  exact ⟨ξ, w', h1, WI.frame hO h2⟩

theorem WI.dom {w0 w : World} {A B H : List HE} (h : WI w0 (blocksOf A) H w) (hp : (keysF A).Perm (keysF B)) : WI w0 (blocksOf B) H w := by
  have hb : ∀ b, b ∈ blocksOf A ↔ b ∈ blocksOf B := fun b => by
    rw [blocksOf_eq, blocksOf_eq]
    exact (hp.map _).mem_iff
  exact ⟨h.owns, h.os, h.tape, h.output, h.size, fun k hk hd => h.far k hk (fun hm => hd ((hb k).1 hm)), fun b hm => (h.near b hm).imp (hb b).1 id⟩

theorem OpC.alike {o : Oper} {vs : List Value} {A B : List HE} {v : Xi → Value} {A' B' : Xi → List HE} (h : OpC P o vs A v A') (hp : (keysF A).Perm (keysF B)) (hp' : ∀ ξ, (keysF (A' ξ)).Perm (keysF (B' ξ))) : OpC P o vs B v B' := by
  intro ρ hρ w hO
  obtain ⟨ξ, w', h1, h2⟩ := h ρ hρ w ((WI.start hO).alike hp.symm).owns
  exact ⟨ξ, w', h1, (h2.alike (hp' ξ)).dom hp⟩

theorem TurnC.alike {A B : List HE} {f : FuncId} {args : List Value} {v : Xi → Value} {A' B' : Xi → List HE} (h : TurnC P A f args v A') (hp : (keysF A).Perm (keysF B)) (hp' : ∀ ξ, (keysF (A' ξ)).Perm (keysF (B' ξ))) : TurnC P B f args v B' := by
  intro w hO
  exact (h w ((WI.start hO).alike hp.symm).owns).mono fun e w' ⟨ξ, h1, h2⟩ => ⟨ξ, h1, (h2.alike (hp' ξ)).dom hp⟩

theorem TurnC.frame {H : List HE} {f : FuncId} {args : List Value} {v : Xi → Value} {H' : Xi → List HE} (h : TurnC P H f args v H') (F : List HE) : TurnC P (H ++ F) f args v (fun ξ => H' ξ ++ F) := by
  intro w hO
  exact (h w (WI.start hO).left).mono fun e w' ⟨ξ, h1, h2⟩ => ⟨ξ, h1, WI.frame hO h2⟩

/-- What a call leaves may be forgotten. -/
theorem WI.forget {w0 w : World} {D : List Nat} {A B : List HE} (h : WI w0 D (A ++ B) w) : WI w0 D A w := h.sub (List.sublist_append_left A B)

def capOf (n x : Nat) : Nat := n + min x (maxLen - n)
theorem capOf_ok {n c : Nat} (h1 : n ≤ c) (h2 : c ≤ maxLen) : capOf n (c - n) = c := by unfold capOf; omega
theorem capOf_row {b n x : Nat} (h : n ≤ maxLen) : rowOk (some (b, capOf n x)) n := by simp only [rowOk, capOf]; omega

theorem op_append {o : Oper} {s x : Operand} {t e : TypeId} {z : Value} {size bytes : Nat} {r : Option (Nat × Nat)} {k nb m cm : Nat} {xs news : List Value} {X : HE}
    (hop : o.op = .call ⟨.builtin .append, #[s, x], #[t, t]⟩) (ht : P.underlying t = some (.slice e)) (hi : (P.info? e).map (fun i => (i.zero, i.size, i.bytes)) = some (some z, size, bytes)) (hzs : z.cells.size = size)
    (hr : rowOk r k) (hxs : xs.length = k * size) (hm : 0 < m) (hl : news.length = m * size) (hX : X.key = (nb, .cells news.toArray e (0, 0), true))
    (h1 : ∀ u ∈ news, u.oneCell' = true) (h63 : k + m ≤ maxLen) (hbytes : (k + m) * bytes ≤ 140737488355328) :
    OpC P o [rowV r k, .slice (some ⟨nb, 0, none⟩) m cm] (X :: rowH e z xs k r) (fun ξ => .slice (some ⟨(ξ 0).1, 0, none⟩) (k + m) (capOf (k + m) (ξ 0).2))
      (fun ξ => X :: rowH e z (xs ++ news) (k + m) (some ((ξ 0).1, capOf (k + m) (ξ 0).2))) := by
  intro ρ hρ w hO
  obtain ⟨inf, i1, i2, i3, i4⟩ := info_of hi
  simp only [HE.key, Prod.mk.injEq] at hX
  obtain ⟨hXb, hXo, hXf⟩ := hX
  have hW0 : WI w (blocksOf (X :: rowH e z xs k r)) (rowH e z xs k r ++ [X]) w := (WI.start hO).append_comm (A := [X])
  have hnb : w.heap[nb]? = some (.cells news.toArray e (0, 0)) := by
    have := hO.1 X (by simp) hXf
    rwa [hXb, hXo] at this
  have hnews : ∀ j u, news[j]? = some u → w.cell? ((⟨nb, 0, none⟩ : Addr).add j) = some u := by
    intro j u hj
    rw [add_eq]
    simp only [Nat.zero_add]
    rw [cell_block hnb j]
    exact hj
  obtain ⟨b', c', w', hrun, q1, q2⟩ := append_row (ty := o.type) ht i1 i2 i3 i4 hzs hr hxs hW0 hm hl hnews h1 h63 hbytes (c := cm)
  simp only [rowOk] at q1
  have hcap := capOf_ok q1.1 q1.2
  have hρ2 : [ρ s, ρ x] = [rowV r k, .slice (some ⟨nb, 0, none⟩) m cm] := by rw [hop] at hρ; exact hρ
  simp only [List.cons.injEq, and_true] at hρ2
  refine ⟨fun _ => (b', c' - (k + m)), w', .inl ?_, ?_⟩
  · simp only [execOp, hop, resolve, invoke, builtin, Sem.run_bind, Sem.run_pure, Result.andThen_ok, List.map_toArray, List.map_cons, List.map_nil, hρ2.1, hρ2.2, hrun, hcap]
  · simp only [hcap]
    exact q2.append_comm (B := [X])

noncomputable abbrev opK (b : Code) (p : List Nat) (i : Nat) : Oper := match nth (opsOf (sub b p)) i with
  | some o => o
  | none => default

def keys1 (e : HE) : List (Nat × Obj × Bool) := keysF [e]
theorem keysF_cons (e : HE) (A : List HE) : keysF (e :: A) = keys1 e ++ keysF A := keysF_append [e] A
theorem keysF_nil : keysF [] = [] := rfl
theorem keys1_hole : keys1 hole = [] := rfl

/-- What is left behind may be dropped. -/
theorem OpC.drop {o : Oper} {vs : List Value} {A B : List HE} {v : Xi → Value} {A' B' : Xi → List HE} (h : OpC P o vs A v A') (X : List HE) (hp : (keysF A).Perm (keysF B)) (hp' : ∀ ξ, (keysF (A' ξ)).Perm (keysF (B' ξ ++ X))) : OpC P o vs B v B' := by
  intro ρ hρ w hO
  obtain ⟨ξ, w', h1, h2⟩ := h ρ hρ w ((WI.start hO).alike hp.symm).owns
  exact ⟨ξ, w', h1, ((h2.alike (hp' ξ)).forget).dom hp⟩

theorem TurnC.drop {A B : List HE} {f : FuncId} {args : List Value} {v : Xi → Value} {A' B' : Xi → List HE} (h : TurnC P A f args v A') (X : Xi → List HE) (hp : (keysF A).Perm (keysF B)) (hp' : ∀ ξ, (keysF (A' ξ)).Perm (keysF (B' ξ ++ X ξ))) : TurnC P B f args v B' := by
  intro w hO
  exact (h w ((WI.start hO).alike hp.symm).owns).mono fun e w' ⟨ξ, h1, h2⟩ => ⟨ξ, h1, ((h2.alike (hp' ξ)).forget).dom hp⟩

/-- What a call that makes a slice leaves. -/
theorem new_of {w w' : World} {H : List HE} {b : Nat} {o : HO} (h : WI w (blocksOf H) (H ++ [⟨b, o⟩]) w') (hO : Owns w H) (hfull : ∀ e ∈ H, e.o.full = true) (ho : o.full = true := by rfl) :
    w.heap.size ≤ b ∧ w'.heap[b]? = some o.obj ∧ Below w.heap.size w w' := by
  have hb : blocksOf [⟨b, o⟩] = [b] := by simp only [blocksOf]; cases o <;> first | rfl | simp [HO.full] at ho
  refine ⟨?_, h.owns.1 ⟨b, o⟩ (by simp) ho, below_of (H := H) h.toFar fun e he => ?_⟩
  · rcases h.near b (by rw [blocksOf_append, hb]; simp) with h' | h'
    · exfalso
      have := h.owns.2
      rw [blocksOf_append, hb, List.nodup_append] at this
      exact this.2.2 b h' b (by simp) rfl
    · exact h'
  · rw [h.owns.1 e (List.mem_append_left _ he) (hfull e he), hO.1 e he (hfull e he)]

/-- A growing slice's block, by how many it holds. -/
def rowX : Nat → Nat × Nat → Option (Nat × Nat)
  | 0, _ => none
  | m + 1, x => some (x.1, capOf (m + 1) x.2)

theorem rowX_ok {m : Nat} {x : Nat × Nat} (h : m ≤ maxLen) : rowOk (rowX m x) m := by
  cases m with
  | zero => rfl
  | succ m => exact capOf_row h

/-- append of one thing that lies in a new block. -/
theorem op_push {o : Oper} {s x : Operand} {t e : TypeId} {z : Value} {size bytes : Nat} {k nb : Nat} {ξ0 : Nat × Nat} {xs news : List Value} {X : HE} (F : List HE)
    (hop : o.op = .call ⟨.builtin .append, #[s, x], #[t, t]⟩) (ht : P.underlying t = some (.slice e)) (hi : (P.info? e).map (fun i => (i.zero, i.size, i.bytes)) = some (some z, size, bytes)) (hzs : z.cells.size = size)
    (hX : X.key = (nb, .cells news.toArray e (0, 0), true)) (hl : news.length = size) (h1 : allOne news = true) (hxs : xs.length = k * size) (h63 : k + 1 ≤ maxLen) (hbytes : (k + 1) * bytes ≤ 140737488355328) :
    OpC P o [rowV (rowX k ξ0) k, .slice (some ⟨nb, 0, none⟩) 1 1] (X :: (F ++ rowH e z xs k (rowX k ξ0))) (fun ξ => rowV (rowX (k + 1) (ξ 0)) (k + 1))
      (fun ξ => hole :: (F ++ rowH e z (xs ++ news) (k + 1) (rowX (k + 1) (ξ 0)))) := by
  refine OpC.drop ((op_append (P := P) (r := rowX k ξ0) (m := 1) (cm := 1) (news := news) hop ht hi hzs (rowX_ok (by omega)) hxs (by omega) (by omega) hX (one_of h1) h63 hbytes).frame F) [X] ?_ fun ξ => ?_
  · exact perm_of_cnt fun x => by simp only [keysF_cons, keysF_append, cnt_append]; omega
  · refine perm_of_cnt fun x => ?_
    simp only [keysF_cons, keysF_nil, keys1_hole, keysF_append, cnt_append, cnt_nil, rowX]
    omega

theorem NewCall.c {H : List HE} {f : FuncId} {args : List Value} {v : Nat → Nat → Value} {o : Nat → Nat → HO} (h : NewCall P H f args v o) (ho : ∀ b x, (o b x).full = true) :
    TurnC P H f args (fun ξ => v (ξ 0).1 (ξ 0).2) (fun ξ => H ++ [⟨(ξ 0).1, o (ξ 0).1 (ξ 0).2⟩]) := by
  intro w hO
  refine (h w hO).mono fun e w' ⟨b, x, h1, h2, h3, h4⟩ => ⟨fun _ => (b, x), h1, ?_⟩
  have hb : blocksOf [(⟨b, o b x⟩ : HE)] = [b] := by
    have := ho b x
    simp only [blocksOf]
    cases hh : o b x <;> simp_all [HO.full]
  have h5 := (WI.start hO).below h4
  refine ⟨⟨fun e he hf => ?_, ?_⟩, h5.os, h5.tape, h5.output, h5.size, h5.far, fun k hk => ?_⟩
  · rcases List.mem_append.1 he with he | he
    · exact h5.owns.1 e he hf
    · simp only [List.mem_singleton] at he
      subst he
      exact h3
  · rw [blocksOf_append, hb, List.nodup_append]
    refine ⟨h5.owns.2, by simp, fun x hx y hy hxy => ?_⟩
    simp only [List.mem_singleton] at hy
    subst hy
    subst hxy
    have := hO.lt x hx
    omega
  · rw [blocksOf_append, hb] at hk
    rcases List.mem_append.1 hk with hk | hk
    · exact .inl hk
    · simp only [List.mem_singleton] at hk
      exact .inr (hk ▸ h2)

/-! ### lists -/
theorem set_same {α : Type} {l : List α} {i : Nat} {x : α} (h : l[i]? = some x) : l.set i x = l := by
  apply List.ext_getElem?
  intro j
  rw [List.getElem?_set]
  split
  · rename_i e
    subst e
    split
    · exact h.symm
    · rw [List.getElem?_eq_none (by omega)]
  · rfl

theorem split_ix {α : Type} {l : List α} {k : Nat} (h : k < l.length) : ∃ pre q post, l = pre ++ q :: post ∧ pre.length = k ∧ l[k]? = some q ∧ pre.length + (post.length + 1) = l.length ∧ ∀ x, l.set k x = pre ++ x :: post := by
  have hl : (l.take k).length = k := by rw [List.length_take]; omega
  have e : l = l.take k ++ l[k] :: l.drop (k + 1) := by rw [← List.drop_eq_getElem_cons h, List.take_append_drop]
  refine ⟨l.take k, l[k], l.drop (k + 1), e, hl, by simp [h], by rw [hl, List.length_drop]; omega, fun x => ?_⟩
  conv => lhs; rw [e]
  rw [List.set_append_right _ _ (by omega), hl, Nat.sub_self, List.set_cons_zero]

theorem ReadCall.wide {A B : List HE} {f : FuncId} {args : List Value} {v : Value} (h : ReadCall P A f args v) (X : List HE) (hp : (keysF B).Perm (keysF (A ++ X))) : ReadCall P B f args v :=
  fun w hO => h w ((WI.start hO).alike hp).left

theorem keysF_perm {A B : List HE} (h : (A.map HE.key).Perm (B.map HE.key)) : (keysF A).Perm (keysF B) := h.filter _
theorem cntF {A B : List HE} (h : (A.map HE.key).Perm (B.map HE.key)) (y : Nat × Obj × Bool) : cnt y (keysF A) = cnt y (keysF B) := cnt_of_perm (keysF_perm h) y

/-- A call that takes the memory beside alone. -/
abbrev callF (v : Xi → Value) (F' : Xi → List HE) : Seg := .turn [] true v (fun _ => .no) (fun _ => []) (fun _ => []) F'

/-! ### what is read of memory that is not laid open -/
theorem rd_index {Z : World → Prop} {H : List HE} {o : Oper} {t e : TypeId} {x i : Operand} {a : Addr} {len cap : Nat} {k : IntKind} {n : Int} {size : Nat} (hop : o.op = .indexAddr t x i) (ht : P.underlying t = some (.slice e)) (hi : (P.info? e).map (·.size) = some size)
    (h0 : 0 ≤ n) (h1 : n < (len : Int)) : ReadOp P Z H o [.slice (some a) len cap, .int k n] (.pointer (some (a.add (n.toNat * size)))) := by
  intro ρ hρ w _ _
  obtain ⟨inf, hinf, hsz⟩ : ∃ inf, P.info? e = some inf ∧ inf.size = size := by
    cases hq : P.info? e with
    | none => simp [hq] at hi
    | some inf => simp [hq] at hi; exact ⟨inf, rfl, hi⟩
  have hρ2 : [ρ x, ρ i] = [.slice (some a) len cap, .int k n] := by rw [hop] at hρ; exact hρ
  simp only [List.cons.injEq, and_true] at hρ2
  simp only [execOp, hop, hρ2.1, hρ2.2, Instr.indexAt, Instr.sureAddr, asIntOf, Sem.run_bind, Sem.run_pure, Result.andThen_ok, run_under ht, Sem.run_ite, if_pos (show 0 ≤ n ∧ n < (len : Int) from ⟨h0, h1⟩), run_size hinf, hsz]

theorem rd_load {Z : World → Prop} {H : List HE} {o : Oper} {t : TypeId} {x : Operand} {a : Addr} {v : Value} (hop : o.op = .load t x) (ht : aggOf P t = some false)
    (hv : ∀ w, Z w → Owns w H → w.cell? a = some v) : ReadOp P Z H o [.pointer (some a)] v := by
  intro ρ hρ w hZ hO
  have hρ2 : [ρ x] = [.pointer (some a)] := by rw [hop] at hρ; exact hρ
  simp only [List.cons.injEq, and_true] at hρ2
  simp only [execOp, hop, hρ2, Instr.loadAt, Instr.sureAddr, Sem.run_bind, Sem.run_pure, Result.andThen_ok, loadVar, run_isAgg ht, Bool.false_eq_true, if_false, run_load, hv w hZ hO]

theorem rd_loads {Z : World → Prop} {H : List HE} {o : Oper} {t : TypeId} {x : Operand} {a : Addr} {vs : List Value} (hop : o.op = .load t x) (ht : aggOf P t = some true) (hl : vs.length = P.cellsOf t)
    (hv : ∀ w, Z w → Owns w H → ∀ j v, vs[j]? = some v → w.cell? (a.add j) = some v) : ReadOp P Z H o [.pointer (some a)] (.agg vs.toArray) := by
  intro ρ hρ w hZ hO
  have hρ2 : [ρ x] = [.pointer (some a)] := by rw [hop] at hρ; exact hρ
  simp only [List.cons.injEq, and_true] at hρ2
  obtain ⟨i, hi, hs⟩ := agg_info ht
  simp only [execOp, hop, hρ2, Instr.loadAt, Instr.sureAddr, Sem.run_bind, Sem.run_pure, Result.andThen_ok, loadVar, run_isAgg ht, if_true, run_size hi]
  rw [← hs, ← hl, run_loadCells_list w a vs (fun j v hj => hv w hZ hO j v hj)]
  rfl

/-- A slice of one-cell things that lies somewhere in what is known. -/
def SliceIn (I : List HE) (v : Value) (xs : List Value) : Prop :=
  (xs = [] ∧ v = .slice none 0 0) ∨ ∃ (a : Addr) (cap : Nat), v = .slice (some a) xs.length cap ∧ ∀ w, Owns w I → ∀ (j : Nat) (x : Value), xs[j]? = some x → w.cell? (a.add j) = some x

/-- Things, each in a block of its own. -/
def tagL {α : Type} (f : Nat → Nat) (l : List α) : List (Nat × α) := l.mapIdx fun i p => (f i, p)
theorem tagL_of {α : Type} (ps : List (Nat × α)) {f : Nat → Nat} (hf : ∀ i q, ps[i]? = some q → f i = q.1) : tagL f (ps.map (·.2)) = ps := by
  apply List.ext_getElem?
  intro i
  simp only [tagL, List.getElem?_mapIdx, List.getElem?_map, Option.map_map]
  cases h : ps[i]? with
  | none => rfl
  | some q => simp [hf i q h]
theorem tagL_len {α : Type} (f : Nat → Nat) (l : List α) : (tagL f l).length = l.length := by simp [tagL]

theorem Owns.sub_left {w : World} {A B : List HE} (h : Owns w (A ++ B)) : Owns w A := (WI.start h).left
theorem Owns.of_sub {w : World} {A B : List HE} (h : Owns w B) (hs : A.Sublist B) : Owns w A := ((WI.start h).sub hs).owns

theorem NewCall.wide {A B : List HE} {f : FuncId} {args : List Value} {v : Nat → Nat → Value} {o : Nat → Nat → HO} (h : NewCall P A f args v o) (X : List HE) (hp : (keysF B).Perm (keysF (A ++ X))) : NewCall P B f args v o :=
  fun w hO => h w ((WI.start hO).alike hp).left

theorem rd_len {Z : World → Prop} {H : List HE} {o : Oper} {x : Operand} {t e : TypeId} {q : Option Addr} {n c : Nat} (hop : o.op = .call ⟨.builtin .len, #[x], #[t]⟩) (ht : P.underlying t = some (.slice e)) : ReadOp P Z H o [.slice q n c] (.int .i64 n) := by
  intro ρ hρ w _ _
  have hρ2 : [ρ x] = [.slice q n c] := by rw [hop] at hρ; exact hρ
  simp only [List.cons.injEq, and_true] at hρ2
  simp only [execOp, hop, resolve, invoke, builtin, Sem.run_bind, Sem.run_pure, Result.andThen_ok, List.map_toArray, List.map_cons, List.map_nil, hρ2, Builtin.len_]
  simp [run_under ht, goInt]

def addrOf : Value → Addr
  | .slice (some a) _ _ => a
  | _ => default

theorem SliceIn.len {I : List HE} {v : Value} {xs : List Value} (h : SliceIn I v xs) {Z : World → Prop} {H : List HE} {o : Oper} {x : Operand} {t e : TypeId} (hop : o.op = .call ⟨.builtin .len, #[x], #[t]⟩) (ht : P.underlying t = some (.slice e)) : ReadOp P Z H o [v] (.int .i64 xs.length) := by
  rcases h with ⟨h1, h2⟩ | ⟨a, cap, h1, _⟩
  · subst h1; subst h2; exact rd_len hop ht
  · subst h1; exact rd_len hop ht

theorem SliceIn.index {I : List HE} {v : Value} {xs : List Value} (h : SliceIn I v xs) {Z : World → Prop} {H : List HE} {o : Oper} {t e : TypeId} {x i : Operand} {k : IntKind} {j size : Nat} (hop : o.op = .indexAddr t x i) (ht : P.underlying t = some (.slice e))
    (hi : (P.info? e).map (·.size) = some size) (hj : j < xs.length) : ReadOp P Z H o [v, .int k j] (.pointer (some ((addrOf v).add (j * size)))) := by
  rcases h with ⟨h1, _⟩ | ⟨a, cap, h1, _⟩
  · subst h1; simp at hj
  · subst h1
    have := rd_index (P := P) (Z := Z) (H := H) (a := a) (len := xs.length) (cap := cap) (k := k) (n := (j : Int)) (size := size) hop ht hi (by omega) (by omega)
    simpa [addrOf] using this

theorem SliceIn.load {I : List HE} {v : Value} {xs : List Value} (h : SliceIn I v xs) {Z : World → Prop} {H : List HE} (hZ : ∀ w, Z w → Owns w I) {o : Oper} {t : TypeId} {x : Operand} {j : Nat} {y : Value} (hop : o.op = .load t x) (ht : aggOf P t = some false) (hj : xs[j]? = some y) :
    ReadOp P Z H o [.pointer (some ((addrOf v).add (j * 1)))] y := by
  rcases h with ⟨h1, _⟩ | ⟨a, cap, h1, h2⟩
  · subst h1; simp at hj
  · subst h1
    refine rd_load hop ht fun w hw _ => ?_
    rw [Nat.mul_one]
    exact h2 w (hZ w hw) j y hj

theorem mem_blocksOf : ∀ {H : List HE} {k : Nat}, k ∈ blocksOf H → ∃ e ∈ H, e.o.full = true ∧ e.b = k
  | [], k, h => by simp [blocksOf] at h
  | d :: r, k, h => by
    simp only [blocksOf] at h
    cases ho : d.o <;> simp only [ho] at h
    · rcases List.mem_cons.1 h with rfl | h
      · exact ⟨d, by simp, by rw [ho]; rfl, rfl⟩
      · obtain ⟨e, h1, h2⟩ := mem_blocksOf h; exact ⟨e, List.mem_cons_of_mem _ h1, h2⟩
    · rcases List.mem_cons.1 h with rfl | h
      · exact ⟨d, by simp, by rw [ho]; rfl, rfl⟩
      · obtain ⟨e, h1, h2⟩ := mem_blocksOf h; exact ⟨e, List.mem_cons_of_mem _ h1, h2⟩
    · obtain ⟨e, h1, h2⟩ := mem_blocksOf h; exact ⟨e, List.mem_cons_of_mem _ h1, h2⟩

/-- All that was known is known yet: nothing has been turned. -/
theorem WI.kept {w w' : World} {I : List HE} (h : WI w (blocksOf I) I w') (hO : Owns w I) : Below w.heap.size w w' :=
  ⟨h.os, h.tape, h.output, h.size, fun k hk => by
    by_cases hm : k ∈ blocksOf I
    · obtain ⟨e, h1, h2, rfl⟩ := mem_blocksOf hm
      rw [h.owns.1 e h1 h2, hO.1 e h1 h2]
    · exact h.far k hk hm⟩

theorem SliceIn.of_block {b : Nat} {ty : TypeId} {xs ys : List Value} {cap : Nat} (I : List HE) (hm : (⟨b, .cells ty [.op (xs ++ ys)]⟩ : HE) ∈ I) : SliceIn I (.slice (some ⟨b, 0, none⟩) xs.length cap) xs := by
  refine .inr ⟨⟨b, 0, none⟩, cap, rfl, fun w hO j x hj => ?_⟩
  have hb := hO.1 _ hm rfl
  have hb' : w.heap[b]? = some (.cells (xs ++ ys).toArray ty (0, 0)) := by simpa [HO.obj, flat, Chunk.vals] using hb
  rw [add_eq]
  simp only [Nat.zero_add]
  rw [cell_block hb' j, List.getElem?_append_left (by
    rcases Nat.lt_or_ge j xs.length with h | h
    · exact h
    · rw [List.getElem?_eq_none h] at hj; simp at hj)]
  exact hj

theorem SliceIn.mono {I J : List HE} {v : Value} {xs : List Value} (h : SliceIn I v xs) (hs : ∀ w, Owns w J → Owns w I) : SliceIn J v xs := by
  rcases h with h | ⟨a, cap, h1, h2⟩
  · exact .inl h
  · exact .inr ⟨a, cap, h1, fun w hO => h2 w (hs w hO)⟩

/-! ### slices of things of any size, somewhere in what is known -/
def SliceOf (I : List HE) (v : Value) (size n : Nat) (xs : List Value) : Prop :=
  xs.length = n * size ∧ ((n = 0 ∧ v = .slice none 0 0) ∨ ∃ (a : Addr) (c : Nat), v = .slice (some a) n c ∧ (0 < n → a.spot = none) ∧
    ∀ w, Owns w I → ∀ (j : Nat) (x : Value), xs[j]? = some x → w.cell? ⟨a.block, a.off + j, none⟩ = some x)

/-- Where a slice's cell lies. -/
def cellAt (v : Value) (j : Nat) : Addr := ⟨(addrOf v).block, (addrOf v).off + j, none⟩

theorem SliceOf.mono {I J : List HE} {v : Value} {size n : Nat} {xs : List Value} (h : SliceOf I v size n xs) (hs : ∀ w, Owns w J → Owns w I) : SliceOf J v size n xs := by
  obtain ⟨h0, h | ⟨a, c, h1, h2, h3⟩⟩ := h
  · exact ⟨h0, .inl h⟩
  · exact ⟨h0, .inr ⟨a, c, h1, h2, fun w hO => h3 w (hs w hO)⟩⟩

theorem SliceOf.row {e : TypeId} {z : Value} {xs : List Value} {n size : Nat} {x : Nat × Nat} (hl : xs.length = n * size) : SliceOf (rowH e z xs n (rowX n x)) (rowV (rowX n x) n) size n xs := by
  refine ⟨hl, ?_⟩
  cases n with
  | zero => exact .inl ⟨rfl, rfl⟩
  | succ n =>
    refine .inr ⟨⟨x.1, 0, none⟩, capOf (n + 1) x.2, rfl, fun _ => rfl, fun w hO j y hj => ?_⟩
    have hb := hO.1 ⟨x.1, .cells e [.op (xs ++ padZ z (capOf (n + 1) x.2 - (n + 1)))]⟩ (by simp [rowX, rowH]) rfl
    have hb' : w.heap[x.1]? = some (.cells (xs ++ padZ z (capOf (n + 1) x.2 - (n + 1))).toArray e (0, 0)) := by simpa [HO.obj, flat, Chunk.vals] using hb
    simp only [Nat.zero_add]
    rw [cell_block hb' j, List.getElem?_append_left (by
      rcases Nat.lt_or_ge j xs.length with h | h
      · exact h
      · rw [List.getElem?_eq_none h] at hj; simp at hj)]
    exact hj

theorem SliceOf.len {I : List HE} {v : Value} {size n : Nat} {xs : List Value} (h : SliceOf I v size n xs) {Z : World → Prop} {H : List HE} {o : Oper} {x : Operand} {t e : TypeId} (hop : o.op = .call ⟨.builtin .len, #[x], #[t]⟩) (ht : P.underlying t = some (.slice e)) : ReadOp P Z H o [v] (.int .i64 n) := by
  obtain ⟨_, ⟨h1, h2⟩ | ⟨a, c, h1, _, _⟩⟩ := h
  · subst h1; subst h2; exact rd_len hop ht
  · subst h1; exact rd_len hop ht

theorem SliceOf.index {I : List HE} {v : Value} {size n : Nat} {xs : List Value} (h : SliceOf I v size n xs) {Z : World → Prop} {H : List HE} {o : Oper} {t e : TypeId} {x i : Operand} {k : IntKind} {j : Nat} (hop : o.op = .indexAddr t x i) (ht : P.underlying t = some (.slice e))
    (hi : (P.info? e).map (·.size) = some size) (hj : j < n) : ReadOp P Z H o [v, .int k j] (.pointer (some (cellAt v (j * size)))) := by
  obtain ⟨_, ⟨h1, h2⟩ | ⟨a, c, h1, h2, _⟩⟩ := h
  · omega
  · subst h1
    have := rd_index (P := P) (Z := Z) (H := H) (a := a) (len := n) (cap := c) (k := k) (n := (j : Int)) (size := size) hop ht hi (by omega) (by omega)
    have hs := h2 (by omega)
    obtain ⟨b, off, spot⟩ := a
    simp only at hs
    subst hs
    rw [Int.toNat_natCast, add_eq] at this
    exact this

theorem SliceOf.load {I : List HE} {v : Value} {size n : Nat} {xs : List Value} (h : SliceOf I v size n xs) {Z : World → Prop} {H : List HE} (hZ : ∀ w, Z w → Owns w I) {o : Oper} {t : TypeId} {x : Operand} {j f : Nat} {y : Value} (hop : o.op = .load t x) (ht : aggOf P t = some false) (hj : xs[j + f]? = some y) :
    ReadOp P Z H o [.pointer (some ⟨(cellAt v j).block, (cellAt v j).off + f, none⟩)] y := by
  obtain ⟨h0, ⟨h1, h2⟩ | ⟨a, c, h1, _, h3⟩⟩ := h
  · subst h1
    have : xs = [] := List.eq_nil_of_length_eq_zero (by simpa using h0)
    subst this; simp at hj
  · subst h1
    refine rd_load hop ht fun w hw _ => ?_
    have := h3 w (hZ w hw) (j + f) y hj
    rw [← Nat.add_assoc] at this
    exact this

/-- The same, of what the operation itself looks at. -/
theorem SliceOf.loadH {I : List HE} {v : Value} {size n : Nat} {xs : List Value} (h : SliceOf I v size n xs) {Z : World → Prop} {o : Oper} {t : TypeId} {x : Operand} {j f : Nat} {y : Value} (hop : o.op = .load t x) (ht : aggOf P t = some false) (hj : xs[j + f]? = some y) :
    ReadOp P Z I o [.pointer (some ⟨(cellAt v j).block, (cellAt v j).off + f, none⟩)] y := by
  obtain ⟨h0, ⟨h1, h2⟩ | ⟨a, c, h1, _, h3⟩⟩ := h
  · subst h1
    have : xs = [] := List.eq_nil_of_length_eq_zero (by simpa using h0)
    subst this; simp at hj
  · subst h1
    refine rd_load hop ht fun w _ hO => ?_
    have := h3 w hO (j + f) y hj
    rw [← Nat.add_assoc] at this
    exact this

theorem SliceOf.loads {I : List HE} {v : Value} {size n : Nat} {xs : List Value} (h : SliceOf I v size n xs) {Z : World → Prop} {H : List HE} (hZ : ∀ w, Z w → Owns w I) {o : Oper} {t : TypeId} {x : Operand} {j f : Nat} {ys : List Value} (hop : o.op = .load t x) (ht : aggOf P t = some true) (hl : ys.length = P.cellsOf t)
    (hj : ∀ i y, ys[i]? = some y → xs[j + f + i]? = some y) (hn : 0 < n) : ReadOp P Z H o [.pointer (some ⟨(cellAt v j).block, (cellAt v j).off + f, none⟩)] (.agg ys.toArray) := by
  obtain ⟨h0, ⟨h1, h2⟩ | ⟨a, c, h1, _, h3⟩⟩ := h
  · omega
  · subst h1
    refine rd_loads hop ht hl fun w hw _ i y hi => ?_
    have := h3 w (hZ w hw) (j + f + i) y (hj i y hi)
    rw [add_eq]
    rw [show a.off + (j + f + i) = a.off + j + f + i by omega] at this
    exact this

theorem SliceOf.toIn {I : List HE} {v : Value} {n : Nat} {xs : List Value} (h : SliceOf I v 1 n xs) : SliceIn I v xs := by
  obtain ⟨h0, ⟨h1, h2⟩ | ⟨a, c, h1, h2, h3⟩⟩ := h
  · subst h1
    exact .inl ⟨List.eq_nil_of_length_eq_zero (by simpa using h0), h2⟩
  · have hn : xs.length = n := by omega
    refine .inr ⟨a, c, by rw [h1, hn], fun w hO j x hj => ?_⟩
    have hlt : j < xs.length := by
      rcases Nat.lt_or_ge j xs.length with h | h
      · exact h
      · rw [List.getElem?_eq_none h] at hj; simp at hj
    have := h3 w hO j x hj
    have hs := h2 (by omega)
    obtain ⟨b, off, spot⟩ := a
    simp only at hs
    subst hs
    rw [add_eq]
    exact this

theorem NewCall.atF {H F : List HE} {f : FuncId} {args : List Value} {v : Nat → Nat → Value} {o : Nat → Nat → HO} (h : NewCall P F f args v o) : NewCallC P (Beside H F) [] f args v o := fun w hB _ => h w hB.1
theorem ReadCall.atF {H F : List HE} {f : FuncId} {args : List Value} {v : Value} (h : ReadCall P F f args v) : ReadCallC P (Beside H F) [] f args v := fun w hB _ => h w hB.1
theorem TurnC.new {H : List HE} {f : FuncId} {args : List Value} {v : Nat → Nat → Value} {o : Nat → Nat → HO} (h : TurnC P H f args (fun ξ => v (ξ 0).1 (ξ 0).2) (fun ξ => H ++ [⟨(ξ 0).1, o (ξ 0).1 (ξ 0).2⟩])) (hfull : ∀ e ∈ H, e.o.full = true) (ho : ∀ b x, (o b x).full = true) :
    NewCall P H f args v o := by
  intro w hO
  refine (h w hO).mono fun e w' ⟨ξ, h1, h2⟩ => ?_
  obtain ⟨g1, g2, g3⟩ := new_of h2 hO hfull (ho _ _)
  exact ⟨(ξ 0).1, (ξ 0).2, h1, g1, g2, g3⟩
end Go.Proofs.Ytbbpmhbeohpmnaa.Rx
