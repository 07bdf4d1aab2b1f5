/- The walk of SpanEars. -/
import Derived.Test.YtbbpmhbeohpmnaaSpZ
namespace Go.Proofs.Ytbbpmhbeohpmnaa
open Rx Go.RowKit

noncomputable abbrev bEa : Code := bodyOf Try.f3
def idsV (me o : BId) : Value := .agg (me.cells ++ o.cells).toArray
def earlyB (me o : BId) (n : Nat) (port : Int) : Bool :=
  cond (cond (cond (cond (cond (cond (cond (!true) true (decide ((n : Int) > 20))) true (decide (port < 1))) true (decide (port > (n : Int)))) true (decide (me.prio < 0))) true (decide (me.prio > 65535))) true (decide (o.prio < 0))) true (decide (o.prio > 65535))

theorem early_of {me o : BId} {n : Nat} {port : Int} (h : earlyB me o n port = false) : 1 ≤ port ∧ port ≤ (n : Int) ∧ n ≤ 20 ∧ 0 ≤ me.prio ∧ me.prio ≤ 65535 ∧ 0 ≤ o.prio ∧ o.prio ≤ 65535 := by
  simp only [earlyB, Bool.not_true, cond_false, Bool.cond_true_left, Bool.or_eq_false_iff, decide_eq_false_iff_not] at h
  omega
theorem cost_of {me : BId} {cs : List Int} (hok : newOk me cs = true) {k : Nat} {c : Int} (hc : cs[k]? = some c) : 1 ≤ c ∧ c ≤ 200000000 ∧ cs.length ≤ 64 := by
  simp only [newOk, Bool.and_eq_true, decide_eq_true_eq] at hok
  have hf := hok.2
  unfold fairOf at hf
  rw [tagL_len, portsN_len] at hf
  have hj := (List.getElem?_eq_some_iff.1 hc).1
  split at hf
  · simp at hf
  · rename_i hl
    split at hf
    · simp at hf
    · rename_i ha
      have hmem : (0, port0 (wr ((k : Int) + 1)) c) ∈ tagL (fun _ => 0) (portsN cs cs.length) := by
        refine List.mem_of_getElem? (i := k) ?_
        simp [tagL, portsN, hj, (List.getElem?_eq_some_iff.1 hc).2]
      have hb : fairBad (port0 (wr ((k : Int) + 1)) c).h = false := by
        cases hx : fairBad (port0 (wr ((k : Int) + 1)) c).h with
        | false => rfl
        | true => exact absurd (List.any_eq_true.2 ⟨_, hmem, hx⟩) ha
      simp only [fairBad, port0, Bool.cond_true_left, Bool.or_eq_false_iff] at hb
      obtain ⟨⟨_, hb1⟩, hb2⟩ := hb
      have hb1' : ¬ c < 1 := of_decide_eq_false hb1
      have hb2' : ¬ c > 200000000 := of_decide_eq_false hb2
      exact ⟨by omega, by omega, by omega⟩

def idsE (me o : BId) (b : Nat) : HE := ⟨b, .cells 26 [known (me.cells ++ o.cells)]⟩

def ear1 (me o : BId) (cs : List Int) (k : Nat) (ξ : Xi) : Sp × List (Nat × Port) := takeL (madeOf me cs ξ).1 (madeOf me cs ξ).2 k (earB o) 0
theorem fitB_ok {x lim : Int} (h1 : 0 ≤ x) (h2 : x < lim) : fitB true x lim = true := by
  unfold fitB
  rw [show decide (x ≥ 0) = true by simpa using h1, show decide (x < lim) = true by simpa using h2]
  rfl
theorem right_ear {o : BId} (h1 : 0 ≤ o.prio) (h2 : o.prio ≤ 65535) : rightB (earB o) = true := by
  unfold rightB
  rw [if_neg (by simp [earB]), if_pos (.inr rfl)]
  unfold rightF
  have hp : 0 ≤ o.prio ∧ o.prio < 65536 := ⟨h1, by omega⟩
  simp only [earB]
  rw [fitB_ok (x := 12) (by omega) (by omega), fitB_ok hp.1 hp.2, fitB_ok (x := 0) (by omega) (by omega), fitB_ok hp.1 hp.2, fitB_ok (x := 1) (by omega) (by omega), fitB_ok (x := 0) (by omega) (by omega), fitB_ok (x := 20) (by omega) (by omega), fitB_ok (x := 2) (by omega) (by omega), fitB_ok (x := 15) (by omega) (by omega)]

abbrev frEa (me o : BId) (v : Value) (k ma oa sb p1 p2 : Nat) (rv : Value) : Fr := [(1, .val (sv v)), (2, .val (sv (i64 ((k : Int) + 1)))), (8, .val (pv ma p1)), (9, .val (pv oa p2)), (10, .val (sv (ptr sb))), (13, .val (sv (i64 0))), (14, .val (sv (.bool (decide (cmpR o me < 0))))), (15, .val (sv rv))]

theorem int_row {n : Nat} (F : List HE) (b c : Nat) (l : List Int) (hl : l.length = n) : SliceOf (F ++ [intE b c l]) (intV b c l) 1 n (ints l) := by
  subst hl
  refine ⟨by rw [ints_len, Nat.mul_one], .inr ⟨⟨b, 0, none⟩, c, rfl, fun _ => rfl, fun w hO j x hj => ?_⟩⟩
  have hb := hO.1 (intE b c l) (by simp) rfl
  have hb' : w.heap[b]? = some (.cells (ints l ++ padZ (i64 0) (c - l.length)).toArray 3 (0, 0)) := by simpa [HO.obj, flat, Chunk.vals] using hb
  simp only [Nat.zero_add]
  rw [cell_block hb' j, List.getElem?_append_left (by
    rcases Nat.lt_or_ge j (ints l).length with h | h
    · exact h
    · rw [List.getElem?_eq_none h] at hj; simp at hj)]
  exact hj

def focI (l : List Int) (k : Nat) (x : Int) (c : Nat) : HO := .cells 3 [.op (ints (l.take k)), .kn [sv (i64 x)], .op (ints (l.drop (k + 1)) ++ padZ (i64 0) (c - l.length))]
theorem focI_obj {l : List Int} {k : Nat} {x : Int} (b c : Nat) (h : l[k]? = some x) : (focI l k x c).obj = (intE b c l).o.obj := by
  obtain ⟨hk, hx⟩ := List.getElem?_eq_some_iff.1 h
  have e : l = l.take k ++ x :: l.drop (k + 1) := by rw [← hx, ← List.drop_eq_getElem_cons hk, List.take_append_drop]
  have e2 : ints l = ints (l.take k) ++ i64 x :: ints (l.drop (k + 1)) := by
    conv => lhs; rw [e]
    simp [ints]
  simp only [focI, HO.obj, flat, Chunk.vals, valsOf, sv, e2]
  simp
theorem _root_.Go.Proofs.Ytbbpmhbeohpmnaa.Rx.NewCallC.obj {P : Program} {Z : World → Prop} {H : List HE} {f : FuncId} {args : List Value} {v : Nat → Nat → Value} {o o' : Nat → Nat → HO} (ho : ∀ b x, (o b x).obj = (o' b x).obj) (h : NewCallC P Z H f args v o) : NewCallC P Z H f args v o' := by
  intro w hZ hO
  refine (h w hZ hO).mono fun e w' ⟨b, x, h1, h2, h3, h4⟩ => ⟨b, x, h1, h2, ?_, h4⟩
  rw [← ho]
  exact h3
theorem ix_foc (l : List Int) (k _m : Nat) (hk20 : k < 2 ^ 40) {n : Nat} (hl : l.length = n) (hk : k < n) : IxOk (wr ((k : Int) + 1 - 1)) l.length 0 1 (ints (l.take k)).length := by
  rw [sub_one hk20]
  have : (l.take k).length = k := by rw [List.length_take]; omega
  simp only [IxOk, ints_len, this]
  omega

theorem ears_tail {I : List HE} {me o : BId} {v : Value} {cs : List Int} {k : Nat} {c : Int} {r : Int} {w w1 : World} {a : Act} {ma oa : Nat} (hv : SliceOf I v 1 cs.length (ints cs)) (hc : cs[k]? = some c) (hn20 : cs.length ≤ 20)
    (_hm1 : 0 ≤ me.prio) (_hm2 : me.prio ≤ 65535) (_ho1 : 0 ≤ o.prio) (_ho2 : o.prio ≤ 65535) (ξ : Xi) (rb rc : Nat) (g1 : (ear1 me o cs k ξ).1.b = (ξ 0).1) (g2 : (ear1 me o cs k ξ).2.length = cs.length) (g3 : Fair (ear1 me o cs k ξ).2)
    (he : Ears me o c k (madeOf me cs ξ).1 (madeOf me cs ξ).2 (decide (cmpR o me < 0)) r)
    (hA : Agrees 177 (frEa me o v k ma oa (ξ 0).1 0 1 (intV rb rc (rolesL (ear1 me o cs k ξ).2))) a)
    (hW : WI w (blocksOf I) ([meE ma me, meE oa o] ++ ((I ++ memS (ear1 me o cs k ξ).1 (ear1 me o cs k ξ).2) ++ [intE rb rc (rolesL (ear1 me o cs k ξ).2)])) w1) :
    PK Try.prog Try.f3 (fun e w' => ∃ _ξ : Xi, e = .returned (.bool true) ∧ WI w (blocksOf I) I w') bEa (kAt bEa [0, 0, 1, 1, 1, 1, 1, 1, 1, 1, 1, 1, 1]) .normal a w1 := by
  have hk := (List.getElem?_eq_some_iff.1 hc).1
  have hrl : (rolesL (ear1 me o cs k ξ).2).length = cs.length := by rw [rolesL, List.length_map, g2]
  have hsub : wr ((k : Int) + 1 - 1) = (k : Int) := sub_one (by omega)
  obtain ⟨_, hr1, hrb, hroot, hstate, h5, h6, h6r⟩ := he
  change (rolesL (ear1 me o cs k ξ).2)[k]? = some r at hr1
  change _ → (ear1 me o cs k ξ).1.best.root = o ∧ (∀ c', c = c' → (ear1 me o cs k ξ).1.best.cost = c') at hroot
  change _ → ∃ q, (ear1 me o cs k ξ).2[k]? = some q ∧ _ at hstate
  change (rolesL (tickOf (ear1 me o cs k ξ).1 (ear1 me o cs k ξ).2 5).ps)[k]? = some r at h5
  change (tickOf (tickOf (ear1 me o cs k ξ).1 (ear1 me o cs k ξ).2 5).S (tickOf (ear1 me o cs k ξ).1 (ear1 me o cs k ξ).2 5).ps 6).S.best = vecMe me at h6
  change (rolesL (tickOf (tickOf (ear1 me o cs k ξ).1 (ear1 me o cs k ξ).2 5).S (tickOf (ear1 me o cs k ξ).1 (ear1 me o cs k ξ).2 5).ps 6).ps)[k]? = some 2 at h6r
  generalize (ξ 0).1 = sb at hA g1
  have hbest := best_c (ear1 me o cs k ξ).1 (ear1 me o cs k ξ).2
  generalize ear1 me o cs k ξ = E at *
  obtain ⟨S1, L1⟩ := E
  simp only at *
  generalize hRL : rolesL L1 = R1 at *
  -- what is read
  have hrow : SliceOf ((I ++ memS S1 L1) ++ [intE rb rc R1]) (intV rb rc R1) 1 cs.length (ints R1) := int_row _ rb rc R1 hrl
  have hvF : SliceOf ((I ++ memS S1 L1) ++ [intE rb rc R1]) v 1 cs.length (ints cs) := hv.mono fun w hO => hO.sub_left.sub_left
  have hZ : ∀ w, Beside [meE ma me, meE oa o] ((I ++ memS S1 L1) ++ [intE rb rc R1]) w → Owns w ((I ++ memS S1 L1) ++ [intE rb rc R1]) := fun w h => h.1
  have q1 : ReadOp Try.prog (Beside [meE ma me, meE oa o] ((I ++ memS S1 L1) ++ [intE rb rc R1])) [] (opK bEa [0, 0, 1, 1, 1, 1, 1, 1, 1, 1, 1, 1, 1] 6) [intV rb rc R1, i64 (wr ((k : Int) + 1 - 1))] (.pointer (some (cellAt (intV rb rc R1) (k * 1)))) := by
    rw [hsub]; exact hrow.index (P := Try.prog) (e := 3) rfl (by kernel_rfl) (by kernel_rfl) hk
  have q2 : ReadOp Try.prog (Beside [meE ma me, meE oa o] ((I ++ memS S1 L1) ++ [intE rb rc R1])) [] (opK bEa [0, 0, 1, 1, 1, 1, 1, 1, 1, 1, 1, 1, 1] 7) [.pointer (some (cellAt (intV rb rc R1) (k * 1)))] (i64 r) := by
    exact hrow.load (P := Try.prog) (f := 0) hZ rfl (by kernel_rfl) (by simp [ints, hr1])
  have hbest' : (S1.b = sb) := g1
  rw [hbest'] at hbest
  have htail : ∀ (a : Act) (w1 : World), Agrees 177 (frEa me o v k ma oa sb 0 1 (intV rb rc R1)) a → WI w (blocksOf I) ([meE ma me, meE oa o] ++ ((I ++ memS S1 L1) ++ [intE rb rc R1])) w1 →
      PK Try.prog Try.f3 (fun e w' => ∃ ξ : Xi, e = .returned (.bool true) ∧ WI w (blocksOf I) I w') bEa (kAt bEa [0, 1, 1, 1, 1, 1, 1, 1, 1, 1, 1, 1, 1]) .normal a w1 := by
    intro a w1 hA hW
    obtain ⟨t51, t52, t53⟩ := tick_ok S1 L1 5
    have ht5 := tick_c S1 L1 g3 5 (by kernel_rfl)
    have hf5 : Fair (tickOf S1 L1 5).ps := g3.of t51
    have ht6 := tick_c (tickOf S1 L1 5).S (tickOf S1 L1 5).ps hf5 6 (by kernel_rfl)
    obtain ⟨t61, t62, t63⟩ := tick_ok (tickOf S1 L1 5).S (tickOf S1 L1 5).ps 6
    have hb5 : (tickOf S1 L1 5).S.b = sb := t52.trans g1
    have hl5 : (tickOf S1 L1 5).ps.length = cs.length := (len_of_fst t53).trans g2
    change TurnC Try.prog (memS S1 L1) 11 [ptr S1.b, i64 5] (fun ξ => .tuple #[valS (tickOf S1 L1 5).out (ξ 0), i64 0]) (fun ξ => memS (tickOf S1 L1 5).S (tickOf S1 L1 5).ps ++ rowS (tickOf S1 L1 5).out (ξ 0)) at ht5
    change TurnC Try.prog (memS (tickOf S1 L1 5).S (tickOf S1 L1 5).ps) 11 [ptr (tickOf S1 L1 5).S.b, i64 6] (fun ξ => .tuple #[valS (tickOf (tickOf S1 L1 5).S (tickOf S1 L1 5).ps 6).out (ξ 0), i64 0])
      (fun ξ => memS (tickOf (tickOf S1 L1 5).S (tickOf S1 L1 5).ps 6).S (tickOf (tickOf S1 L1 5).S (tickOf S1 L1 5).ps 6).ps ++ rowS (tickOf (tickOf S1 L1 5).S (tickOf S1 L1 5).ps 6).out (ξ 0)) at ht6
    have hb6 : (tickOf (tickOf S1 L1 5).S (tickOf S1 L1 5).ps 6).S.b = sb := t62.trans hb5
    have hl6 : (tickOf (tickOf S1 L1 5).S (tickOf S1 L1 5).ps 6).ps.length = cs.length := (len_of_fst t63).trans hl5
    generalize tickOf (tickOf S1 L1 5).S (tickOf S1 L1 5).ps 6 = T6 at ht6 hb6 hl6 h6 h6r
    rw [hb5] at ht6
    rw [hbest'] at ht5
    generalize tickOf S1 L1 5 = T5 at ht5 ht6 hb5 hl5 h5
    have c5 : TurnC Try.prog ((I ++ memS S1 L1) ++ [intE rb rc R1]) 11 [ptr sb, i64 5] (fun ξ => .tuple #[valS T5.out (ξ 0), i64 0]) (fun ξ => ((I ++ memS T5.S T5.ps) ++ [intE rb rc R1]) ++ rowS T5.out (ξ 0)) :=
      (ht5.frame (I ++ [intE rb rc R1])).alike (perm_of_cnt fun y => by simp only [keysF_append, cnt_append]; omega) (fun _ => perm_of_cnt fun y => by simp only [keysF_append, cnt_append]; omega)
    have c6 : ∀ x, TurnC Try.prog (((I ++ memS T5.S T5.ps) ++ [intE rb rc R1]) ++ rowS T5.out x) 11 [ptr sb, i64 6] (fun ξ => .tuple #[valS T6.out (ξ 0), i64 0]) (fun ξ => (((I ++ memS T6.S T6.ps) ++ [intE rb rc R1]) ++ rowS T5.out x) ++ rowS T6.out (ξ 0)) := fun x =>
      (ht6.frame (I ++ [intE rb rc R1] ++ rowS T5.out x)).alike (perm_of_cnt fun y => by simp only [keysF_append, cnt_append]; omega) (fun _ => perm_of_cnt fun y => by simp only [keysF_append, cnt_append]; omega)
    generalize hR5 : rolesL T5.ps = R5 at h5
    generalize hR6 : rolesL T6.ps = R6 at h6r
    have hr5l : R5.length = cs.length := by rw [← hR5, rolesL, List.length_map, hl5]
    have hr6l : R6.length = cs.length := by rw [← hR6, rolesL, List.length_map, hl6]
    have hro5 := Roles_c T5.S T5.ps (by omega) (by omega)
    have hro6 := Roles_c T6.S T6.ps (by omega) (by omega)
    change TurnC Try.prog (memS T5.S T5.ps) 8 [ptr T5.S.b] (fun ξ => intV (ξ 0).1 (ξ 0).2 (rolesL T5.ps)) (fun ξ => memS T5.S T5.ps ++ [intE (ξ 0).1 (ξ 0).2 (rolesL T5.ps)]) at hro5
    change TurnC Try.prog (memS T6.S T6.ps) 8 [ptr T6.S.b] (fun ξ => intV (ξ 0).1 (ξ 0).2 (rolesL T6.ps)) (fun ξ => memS T6.S T6.ps ++ [intE (ξ 0).1 (ξ 0).2 (rolesL T6.ps)]) at hro6
    rw [hR5, hb5] at hro5
    rw [hR6, hb6] at hro6
    have n5 : ∀ x, NewCallC Try.prog (Beside [meE ma me, meE oa o] (((I ++ memS T5.S T5.ps) ++ [intE rb rc R1]) ++ rowS T5.out x)) [] 8 [ptr sb] (fun b x => intV b x R5) (fun _ x => focI R5 k r x) := fun x => by
      refine NewCallC.obj (fun b x => (focI_obj b x h5).symm) (NewCall.atF ((TurnC.new (v := fun b x => intV b x R5) (o := fun b x => (intE b x R5).o) hro5 memS_full (fun _ _ => rfl)).wide (I ++ [intE rb rc R1] ++ rowS T5.out x) (perm_of_cnt fun y => ?_)))
      simp only [keysF_append, cnt_append]
      omega
    have n6 : ∀ H x y, NewCallC Try.prog (Beside H ((((I ++ memS T6.S T6.ps) ++ [intE rb rc R1]) ++ rowS T5.out x) ++ rowS T6.out y)) [] 8 [ptr sb] (fun b x => intV b x R6) (fun _ x => focI R6 k 2 x) := fun H x y => by
      refine NewCallC.obj (fun b x => (focI_obj b x h6r).symm) (NewCall.atF ((TurnC.new (v := fun b x => intV b x R6) (o := fun b x => (intE b x R6).o) hro6 memS_full (fun _ _ => rfl)).wide (I ++ [intE rb rc R1] ++ rowS T5.out x ++ rowS T6.out y) (perm_of_cnt fun z => ?_)))
      simp only [keysF_append, cnt_append]
      omega
    have b6 : ∀ H x y, ReadCallC Try.prog (Beside H ((((I ++ memS T6.S T6.ps) ++ [intE rb rc R1]) ++ rowS T5.out x) ++ rowS T6.out y)) [] 9 [ptr sb] (vecMe me).val := fun H x y => by
      have := best_read T6.S T6.ps.length
      rw [hb6, h6] at this
      refine ReadCall.atF (this.wide (I ++ (arrE T6.S T6.ps :: mapE T6.S :: T6.ps.map portE) ++ [intE rb rc R1] ++ rowS T5.out x ++ rowS T6.out y) (perm_of_cnt fun z => ?_))
      simp only [memS, keysF_append, keysF_cons, keysF_nil, cnt_append, cnt_nil]
      omega
    have hrow5 : ∀ x, SliceOf (((I ++ memS T5.S T5.ps) ++ [intE rb rc R1]) ++ rowS T5.out x) (intV rb rc R1) 1 cs.length (ints R1) := fun x => (int_row (I ++ memS T5.S T5.ps) rb rc R1 hrl).mono fun w hO => hO.sub_left
    have d3 : ∀ x, ReadOp Try.prog (Beside [meE ma me, meE oa o] (((I ++ memS T5.S T5.ps) ++ [intE rb rc R1]) ++ rowS T5.out x)) [] (opK bEa [0, 1, 1, 1, 1, 1, 1, 1, 1, 1, 1, 1, 1, 1] 9) [intV rb rc R1, i64 (wr ((k : Int) + 1 - 1))] (.pointer (some (cellAt (intV rb rc R1) (k * 1)))) := fun x => by
      rw [hsub]; exact (hrow5 x).index (P := Try.prog) (e := 3) rfl (by kernel_rfl) (by kernel_rfl) hk
    have d4 : ∀ x, ReadOp Try.prog (Beside [meE ma me, meE oa o] (((I ++ memS T5.S T5.ps) ++ [intE rb rc R1]) ++ rowS T5.out x)) [] (opK bEa [0, 1, 1, 1, 1, 1, 1, 1, 1, 1, 1, 1, 1, 1] 10) [.pointer (some (cellAt (intV rb rc R1) (k * 1)))] (i64 r) := fun x =>
      (hrow5 x).load (P := Try.prog) (f := 0) (fun w h => h.1) rfl (by kernel_rfl) (by simp [ints, hr1])
    have i5 := ix_foc R5 k 20 (by omega) hr5l hk
    have i6 := ix_foc R6 k 20 (by omega) hr6l hk
    refine pk_run2 fit safe 300 [.stop, .newC [] (fun b x => intV b x R5) (fun pos => .loc pos 0 0) (fun _ x => focI R5 k r x), .ix 1 0, .sk, .rd [] (.pointer (some (cellAt (intV rb rc R1) (k * 1)))) .no, .rd [] (i64 r) .no, .stop,
        .readC [] (vecMe me).val, .g true, .g true, .g true, .g true, .newC [] (fun b x => intV b x R6) (fun pos => .loc pos 0 0) (fun _ x => focI R6 k 2 x), .ix 1 0]
      [.run, callF (fun ξ => .tuple #[valS T5.out (ξ 0), i64 0]) (fun ξ => ((I ++ memS T5.S T5.ps) ++ [intE rb rc R1]) ++ rowS T5.out (ξ 0)),
       .run, .dep fun h => callF (fun ξ => .tuple #[valS T6.out (ξ 0), i64 0]) (fun ξ => (((I ++ memS T6.S T6.ps) ++ [intE rb rc R1]) ++ rowS T5.out (h 1 0)) ++ rowS T6.out (ξ 0))] [] []
      (fun ν => ⟨[true, true, r == r, vecEq (vecMe me) (vecMe me)], [true, true, true, true], [_, _, _, _, _, _, _, _, _], .ret (.bool true) [] ((((I ++ memS T6.S T6.ps) ++ [intE rb rc R1]) ++ rowS T5.out (ν 1 0)) ++ rowS T6.out (ν 3 0))⟩)
      hA hW (fun ν => by kernel_rfl) (fun _ => by simp [(vecEq_iff (vecMe me) (vecMe me)).2 rfl]) (fun ν => ⟨c5, n5 (ν 1 0), i5, d3 (ν 1 0), d4 (ν 1 0), c6 (ν 1 0), b6 [meE ma me, meE oa o, ⟨(ν 2 6).1, focI R5 k r (ν 2 6).2⟩] (ν 1 0) (ν 3 0), n6 [meE ma me, meE oa o, ⟨(ν 2 6).1, focI R5 k r (ν 2 6).2⟩] (ν 1 0) (ν 3 0), i6⟩) (fun ν w2 hW2 => ⟨ξ, rfl, ?_⟩)
    exact (hW2 [] rfl).sub (by simp only [List.nil_append, List.append_assoc]; exact List.sublist_append_left _ _)
  cases hbt : decide (cmpR o me < 0) with
  | true =>
    rw [hbt] at hrb hroot hstate
    obtain ⟨hroot1, hcost⟩ := hroot rfl
    have hcost1 := hcost c rfl
    obtain ⟨q, hq, hqs⟩ := hstate rfl
    have hbF : ReadCall Try.prog ((I ++ memS S1 L1) ++ [intE rb rc R1]) 9 [ptr sb] S1.best.val := by
      have := best_read S1 L1.length
      rw [hbest'] at this
      refine this.wide (I ++ (arrE S1 L1 :: mapE S1 :: L1.map portE) ++ [intE rb rc R1]) (perm_of_cnt fun y => ?_)
      simp only [memS, keysF_append, keysF_cons, keysF_nil, cnt_append, cnt_nil]
      omega
    have hbC : ReadCallC Try.prog (Beside [meE ma me, meE oa o] ((I ++ memS S1 L1) ++ [intE rb rc R1])) [] 9 [ptr sb] S1.best.val := hbF.atF
    have hst := States_c S1 L1 (by omega) (by omega)
    rw [hbest'] at hst
    generalize hSL : (L1.map fun q => numStates q.2) = SL at hst
    have hsl : SL.length = cs.length := by rw [← hSL, List.length_map, g2]
    have hs2 : SL[k]? = some 2 := by rw [← hSL, List.getElem?_map, hq]; simp [numStates, hqs]
    have hstN : NewCallC Try.prog (Beside [meE ma me, meE oa o] ((I ++ memS S1 L1) ++ [intE rb rc R1])) [] 10 [ptr sb] (fun b x => intV b x SL) (fun b x => focI SL k 2 x) := by
      refine NewCallC.obj (fun b x => (focI_obj b x hs2).symm) (NewCall.atF ((TurnC.new (v := fun b x => intV b x SL) (o := fun b x => (intE b x SL).o) hst memS_full (fun _ _ => rfl)).wide (I ++ [intE rb rc R1]) (perm_of_cnt fun y => ?_)))
      simp only [keysF_append, cnt_append]
      omega
    have q3 : ReadOp Try.prog (Beside [meE ma me, meE oa o] ((I ++ memS S1 L1) ++ [intE rb rc R1])) [] (opK bEa [0, 0, 1, 1, 1, 1, 1, 1, 1, 1, 1, 1, 1] 27) [v, i64 (wr ((k : Int) + 1 - 1))] (.pointer (some (cellAt v (k * 1)))) := by
      rw [hsub]; exact hvF.index (P := Try.prog) (e := 3) rfl (by kernel_rfl) (by kernel_rfl) hk
    have q4 : ReadOp Try.prog (Beside [meE ma me, meE oa o] ((I ++ memS S1 L1) ++ [intE rb rc R1])) [] (opK bEa [0, 0, 1, 1, 1, 1, 1, 1, 1, 1, 1, 1, 1] 28) [.pointer (some (cellAt v (k * 1)))] (i64 c) := by
      exact hvF.load (P := Try.prog) (f := 0) hZ rfl (by kernel_rfl) (by simp [ints, hc])
    have hi5 := ix_foc SL k 20 (by omega) hsl hk
    refine pk_run2 fit safe 300 [.asB 87 false, .rd [] (.pointer (some (cellAt (intV rb rc R1) (k * 1)))) .no, .rd [] (i64 r) .no, .asB 97 false, .asB 99 true, .readC [] S1.best.val, .asB 105 false, .readC [] S1.best.val, .rd [] (.pointer (some (cellAt v (k * 1)))) .no, .rd [] (i64 c) .no,
        .asB 116 false, .newC [] (fun b x => intV b x SL) (fun pos => .loc pos 0 0) (fun _ x => focI SL k 2 x), .ix 1 0, .d false, .cut [0, 1, 1, 1, 1, 1, 1, 1, 1, 1, 1, 1, 1]] [] [true, true] [1, 2, 8, 9, 10, 13, 14, 15]
      (fun ν => ⟨[false, (r == 1) != decide (cmpR o me < 0), decide (cmpR o me < 0), !(idEq S1.best.root o), S1.best.cost != c, false], [false, false, true, false, false, false], [_, _, _, _, _, _, _, _], .stop (kAt bEa [0, 1, 1, 1, 1, 1, 1, 1, 1, 1, 1, 1, 1]) (frEa me o v k ma oa sb 0 1 (intV rb rc R1)) [meE ma me, meE oa o] ((I ++ memS S1 L1) ++ [intE rb rc R1])⟩)
      hA hW (fun ν => by kernel_rfl) (fun _ => by simp only [hrb, hbt, (idEq_iff S1.best.root o).2 hroot1]; simp [hcost1]) (fun ν => ⟨q1, q2, hbC, hbC, q3, q4, hstN, hi5⟩) (fun ν a w1 hA hW => htail a w1 hA hW)
  | false =>
    rw [hbt] at hrb
    refine pk_run2 fit safe 300 [.asB 87 false, .rd [] (.pointer (some (cellAt (intV rb rc R1) (k * 1)))) .no, .rd [] (i64 r) .no, .asB 97 false, .asB 99 false, .ix 0 0, .ix 0 0, .ix 0 0, .ix 0 0, .ix 0 0, .d false, .cut [0, 1, 1, 1, 1, 1, 1, 1, 1, 1, 1, 1, 1]] [] [true, true] [1, 2, 8, 9, 10, 13, 14, 15]
      (fun ν => ⟨[false, (r == 1) != decide (cmpR o me < 0), decide (cmpR o me < 0), false], [false, false, false, false], [_, _], .stop (kAt bEa [0, 1, 1, 1, 1, 1, 1, 1, 1, 1, 1, 1, 1]) (frEa me o v k ma oa sb 0 1 (intV rb rc R1)) [meE ma me, meE oa o] ((I ++ memS S1 L1) ++ [intE rb rc R1])⟩)
      hA hW (fun ν => by kernel_rfl) (fun _ => by simp only [hrb, hbt]; simp) (fun ν => ⟨q1, q2⟩) (fun ν a w1 hA hW => htail a w1 hA hW)

theorem ears_c (I : List HE) (me o : BId) (v : Value) (cs : List Int) (hv : SliceOf I v 1 cs.length (ints cs)) (port : Int) :
    TurnC Try.prog I 3 [idsV me o, v, i64 port] (fun _ => .bool true) (fun _ => I) := by
  intro w hO
  refine calls_pk (ys := [sv (idsV me o), sv v, sv (i64 port)]) Try.func3 (body := bEa) rfl fun a hA => ?_
  have hl1 : ∀ b, ReadOp Try.prog (Beside [idsE me o b] I) [] (opK bEa [0, 0, 1, 1, 1, 1] 4) [v] (i64 cs.length) := fun _ => hv.len (P := Try.prog) (e := 3) rfl (by kernel_rfl)
  have hl2 : ∀ b, ReadOp Try.prog (Beside [idsE me o b] I) [] (opK bEa [0, 0, 1, 1, 1, 1] 14) [v] (i64 cs.length) := fun _ => hv.len (P := Try.prog) (e := 3) rfl (by kernel_rfl)
  cases hb : earlyB me o cs.length port with
  | true =>
    exact pk_run2 (w0 := w) (D := blocksOf I) fit safe 300 [.stop, .ixc 0 0, .ixc 0 7, .sk, .rd [] (i64 cs.length) .no, .rd [] (i64 cs.length) .no, .d true] [.run, .turn [] false (fun _ => .bool true) (fun _ => .no) (fun _ => []) (fun _ => []) (fun _ => [])] [] []
      (fun ν => ⟨[earlyB me o cs.length port], [true], [_, _, _], .ret (.bool true) [] I⟩)
      hA (H := []) (WI.start hO) (fun ν => by kernel_rfl) (fun _ => by rw [hb]) (fun ν => ⟨awake_c, hl1 (ν 0 0).1, hl2 (ν 0 0).1⟩) (fun ν w1 hW => ⟨fun _ => (0, 0), rfl, hW [] rfl⟩)
  | false =>
    -- the port is one; costs are some
    have hearly : 1 ≤ port ∧ port ≤ (cs.length : Int) ∧ cs.length ≤ 20 ∧ 0 ≤ me.prio ∧ me.prio ≤ 65535 ∧ 0 ≤ o.prio ∧ o.prio ≤ 65535 := early_of hb
    obtain ⟨hp1, hp2, hn20, hm1, hm2, ho1, ho2⟩ := hearly
    obtain ⟨k, rfl⟩ : ∃ k : Nat, port = (k : Int) + 1 := ⟨(port - 1).toNat, by omega⟩
    have hk : k < cs.length := by omega
    have hvi := hv.toIn
    cases hok : newOk me cs with
    | false =>
      have hmb := made_bad I me v cs hvi (by omega) (by omega) hok
      exact pk_run2 (w0 := w) (D := blocksOf I) fit safe 300 [.stop, .ixc 0 0, .ixc 0 7, .sk, .rd [] (i64 cs.length) .no, .rd [] (i64 cs.length) .no, .d false, .stop, .d true]
        [.run, .turn [] false (fun _ => .bool true) (fun _ => .no) (fun _ => []) (fun _ => []) (fun _ => []), .run, callF (fun _ => .tuple #[.pointer none, .bool false]) (fun _ => I)] [] []
        (fun ν => ⟨[earlyB me o cs.length ((k : Int) + 1), !false], [false, true], [_, _, _, _], .ret (.bool true) [] I⟩)
        hA (H := []) (WI.start hO) (fun ν => by kernel_rfl) (fun _ => by rw [hb]; rfl) (fun ν => ⟨awake_c, hl1 (ν 0 0).1, hl2 (ν 0 0).1, hmb⟩) (fun ν w1 hW => ⟨fun _ => (0, 0), rfl, hW [] rfl⟩)
    | true =>
      obtain ⟨c, hc⟩ : ∃ c, cs[k]? = some c := ⟨cs[k], by simp [hk]⟩
      have hmg := made_good I me v cs hvi (by omega) (by omega) hok
      have hcost := cost_of hok hc
      -- the bridge, made
      have hmade := fun ξ => madeOf_made me cs ξ (by omega) (by omega) hok
      have hfair : ∀ ξ, Fair (madeOf me cs ξ).2 := fun ξ => (made_same _ _ (newPs_fair me cs ξ (by omega) (by omega) hok) cs.length).2.2
      have hbb : ∀ ξ, (madeOf me cs ξ).1.b = (ξ 0).1 := fun ξ => (made_same _ _ (newPs_fair me cs ξ (by omega) (by omega) hok) cs.length).1
      have hup : ∀ ξ, ∃ q, (madeOf me cs ξ).2[k]? = some q ∧ q.2.h.up = true := fun ξ => by
        have hlen := (hmade ξ).len
        exact ⟨(madeOf me cs ξ).2[k]'(by omega), by simp [hlen, hk], ((hmade ξ).noHas (j := k) (by simp [hlen, hk])).2⟩
      have hright : rightB (earB o) = true := right_ear ho1 ho2
      have htake : ∀ ξ, TurnC Try.prog (I ++ memS (madeOf me cs ξ).1 (madeOf me cs ξ).2) 6 [ptr (ξ 0).1, i64 ((k : Int) + 1), (earB o).val, i64 0] (fun _ => i64 0) (fun _ => I ++ memS (ear1 me o cs k ξ).1 (ear1 me o cs k ξ).2) := fun ξ => by
        obtain ⟨q, hq, hqu⟩ := hup ξ
        have := take_c (madeOf me cs ξ).1 (madeOf me cs ξ).2 (hfair ξ) k hq hqu (earB o) hright (by simp [earB]) 0 rfl
        rw [hbb ξ] at this
        exact (this.c.frame I).alike (perm_of_cnt fun y => by simp only [keysF_append, cnt_append]; omega) (fun _ => perm_of_cnt fun y => by simp only [ear1, keysF_append, cnt_append]; omega)
      have hT1 : ∀ ξ, (ear1 me o cs k ξ).1.b = (ξ 0).1 ∧ (ear1 me o cs k ξ).2.length = cs.length ∧ Fair (ear1 me o cs k ξ).2 := fun ξ => by
        have := takeL_ok (madeOf me cs ξ).1 (madeOf me cs ξ).2 k (earB o) 0
        exact ⟨this.2.1.trans (hbb ξ), (len_of_fst this.2.2).trans (hmade ξ).len, (hfair ξ).of this.1⟩
      have hroles : ∀ ξ, TurnC Try.prog (I ++ memS (ear1 me o cs k ξ).1 (ear1 me o cs k ξ).2) 8 [ptr (ξ 0).1] (fun ξ' => intV (ξ' 0).1 (ξ' 0).2 (rolesL (ear1 me o cs k ξ).2)) (fun ξ' => (I ++ memS (ear1 me o cs k ξ).1 (ear1 me o cs k ξ).2) ++ [intE (ξ' 0).1 (ξ' 0).2 (rolesL (ear1 me o cs k ξ).2)]) := fun ξ => by
        obtain ⟨g1, g2, g3⟩ := hT1 ξ
        have := Roles_c (ear1 me o cs k ξ).1 (ear1 me o cs k ξ).2 (by omega) (by omega)
        rw [g1] at this
        exact (this.frame I).alike (perm_of_cnt fun y => by simp only [keysF_append, cnt_append]; omega) (fun _ => perm_of_cnt fun y => by simp only [rolesL, keysF_append, cnt_append]; omega)
      refine pk_run2 (w0 := w) (D := blocksOf I) fit safe 300 [.stop, .ixc 0 0, .ixc 0 7, .sk, .rd [] (i64 cs.length) .no, .rd [] (i64 cs.length) .no, .d false, .stop, .d false, .stop, .pure (i64 (cmpR o me)), .stop, .cut [0, 0, 1, 1, 1, 1, 1, 1, 1, 1, 1, 1, 1]]
        [.run, .turn [] false (fun _ => .bool true) (fun _ => .no) (fun _ => []) (fun _ => []) (fun _ => []), .run, callF (fun ξ => .tuple #[ptr (ξ 0).1, .bool true]) (fun ξ => I ++ memS (madeOf me cs ξ).1 (madeOf me cs ξ).2),
         .run, .dep fun h => callF (fun _ => i64 0) (fun _ => I ++ memS (ear1 me o cs k (h 3)).1 (ear1 me o cs k (h 3)).2),
         .run, .dep fun h => callF (fun ξ => intV (ξ 0).1 (ξ 0).2 (rolesL (ear1 me o cs k (h 3)).2)) (fun ξ => (I ++ memS (ear1 me o cs k (h 3)).1 (ear1 me o cs k (h 3)).2) ++ [intE (ξ 0).1 (ξ 0).2 (rolesL (ear1 me o cs k (h 3)).2)])] [false, true, true] [1, 2, 8, 9, 10, 13, 14, 15]
        (fun ν => ⟨[earlyB me o cs.length ((k : Int) + 1), !true], [false, false], [_, _, _, _, _, _, _], .stop (kAt bEa [0, 0, 1, 1, 1, 1, 1, 1, 1, 1, 1, 1, 1]) (frEa me o v k (ν 2 3).1 (ν 2 7).1 (ν 3 0).1 1 2 (intV (ν 7 0).1 (ν 7 0).2 (rolesL (ear1 me o cs k (ν 3)).2)))
          [meE (ν 2 3).1 me, meE (ν 2 7).1 o] ((I ++ memS (ear1 me o cs k (ν 3)).1 (ear1 me o cs k (ν 3)).2) ++ [intE (ν 7 0).1 (ν 7 0).2 (rolesL (ear1 me o cs k (ν 3)).2)])⟩)
        hA (H := []) (WI.start hO) (fun ν => by kernel_rfl) (fun _ => by rw [hb]; rfl) (fun ν => ⟨awake_c, hl1 (ν 0 0).1, hl2 (ν 0 0).1, hmg, htake (ν 3), cmpR_any o me, hroles (ν 3)⟩) (fun ν a w1 hA hW => ?_)
      generalize (ν 2 3).1 = ma at hA hW
      generalize (ν 2 7).1 = oa at hA hW
      generalize ν 3 = ξ at hA hW
      generalize (ν 7 0).1 = rb at hA hW
      generalize (ν 7 0).2 = rc at hA hW
      obtain ⟨g1, g2, g3⟩ := hT1 ξ
      obtain ⟨r, he⟩ := ears_of (hmade ξ) hc o hcost.1 hcost.2.1 (by rw [(hmade ξ).len]; exact hcost.2.2)
      change Ears me o c k (madeOf me cs ξ).1 (madeOf me cs ξ).2 (decide (cmpR o me < 0)) r at he
      exact ears_tail hv hc hn20 hm1 hm2 ho1 ho2 ξ rb rc g1 g2 g3 he (hA.like rfl) hW
end Go.Proofs.Ytbbpmhbeohpmnaa
