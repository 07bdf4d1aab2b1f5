/- A bridge is made. -/
import Derived.Test.YtbbpmhbeohpmnaaSpQ
namespace Go.Proofs.Ytbbpmhbeohpmnaa
open Rx Go.RowKit

noncomputable abbrev bNw : Code := bodyOf Try.f15

def port0 (n c : Int) : Port := ⟨⟨n, c, false, false, vec0⟩, 0, 0, false, 0, 0, 0, false, false⟩
def portsN (cs : List Int) (k : Nat) : List Port := (List.range k).map fun (i : Nat) => port0 (wr ((i : Int) + 1)) ((cs[i]?).getD 0)
theorem portsN_succ {cs : List Int} {k : Nat} {c : Int} (h : cs[k]? = some c) : portsN cs (k + 1) = portsN cs k ++ [port0 (wr ((k : Int) + 1)) c] := by
  simp [portsN, List.range_succ, h]
def spX (b mb : Nat) (mt : Tag) (me : BId) (best : Vec) (change last : Int) (sl : TV) : HE := ⟨b, .cells 65 [.kn (me.cells.map sv ++ sl :: (best.cells.map sv ++ [sv (i64 change), sv (i64 last), ⟨.map (some mb), mt⟩]))]⟩
def m0E (mb : Nat) : HE := ⟨mb, .other (mObj [] 0)⟩
theorem ptrs_len (ps : List (Nat × Port)) : (ptrs ps).length = ps.length := by simp [ptrs]

abbrev frN (_me : BId) (b0 sb : Nat) (v : TV) (n : Nat) (k : Int) : Fr := [(1, .val v), (2, .val (pv b0 0)), (6, .val (pv sb 2)), (16, .val v), (17, .val (sv (i64 n))), (18, .val (sv (i64 k)))]
theorem ptr_info : (Try.prog.info? 51).map (fun i => (i.zero, i.size, i.bytes)) = some (some nilP, 1, 8) := by kernel_rfl

def newS (me : BId) (n : Nat) (ξ : Xi) : Sp := ⟨(ξ 0).1, (ξ 1).1, (ξ 2).1, capOf n (ξ 1).2, me, vecMe me, 0, -1, [], 0⟩
def newPs (cs : List Int) (ξ : Xi) : List (Nat × Port) := tagL (fun i => (ξ (i + 3)).1) (portsN cs cs.length)
def prioB (me : BId) : Bool := cond (decide (me.prio < 0)) true (decide (me.prio > 65535))
def newOk (me : BId) (cs : List Int) : Bool := !prioB me && decide (fairOf (tagL (fun _ => 0) (portsN cs cs.length)) = 0)
theorem portsN_len (cs : List Int) (k : Nat) : (portsN cs k).length = k := by simp [portsN]
theorem fair_snd {ps ps' : List (Nat × Port)} (h : ps.map (·.2) = ps'.map (·.2)) : fairOf ps = fairOf ps' := by
  have hl := congrArg List.length h
  simp only [List.length_map] at hl
  have ha : ∀ l : List (Nat × Port), (l.any fun q => fairBad q.2.h) = (l.map (·.2)).any fun p => fairBad p.h := fun l => by rw [List.any_map]; rfl
  unfold fairOf
  rw [hl, ha ps, ha ps', h]
theorem portsN_num (cs : List Int) (n : Nat) (hn : n ≤ 70) (ps : List (Nat × Port)) (h : ps.map (·.2) = portsN cs n) : Numbered ps := by
  intro k hk
  have e := congrArg (fun l => l[k]?) h
  have hk' : k < n := by have := congrArg List.length h; simp [portsN] at this; omega
  simp [portsN, hk, hk'] at e
  rw [e]
  simp only [port0]
  exact wr_int (by omega)
theorem sel_none (me : BId) (ps : List (Nat × Port)) (h : ∀ q ∈ ps, q.2.h.up = false) : selOf me ps = (vecMe me, -1) := by
  have key : ∀ k, k ≤ ps.length → selAt me ps k = (vecMe me, -1) := by
    intro k
    induction k with
    | zero => intro _; rfl
    | succ k ih =>
      intro hk
      have h1 : k < ps.length := by omega
      have hu := h ps[k] (List.getElem_mem h1)
      simp only [selAt, List.getElem?_eq_getElem h1, ih (by omega)]
      simp only [selStep, selTest, counts, hu, cond_false, Bool.false_eq_true, if_false]
  exact key ps.length (Nat.le_refl _)
theorem portsN_down (cs : List Int) (n : Nat) (ps : List (Nat × Port)) (h : ps.map (·.2) = portsN cs n) : ∀ q ∈ ps, q.2.h.up = false := by
  intro q hq
  have : q.2 ∈ portsN cs n := by rw [← h]; exact List.mem_map_of_mem hq
  simp only [portsN, List.mem_map] at this
  obtain ⟨i, _, hi⟩ := this
  rw [← hi]; rfl
theorem tagL_snd {α : Type} (f : Nat → Nat) (l : List α) : (tagL f l).map (·.2) = l := by
  apply List.ext_getElem?
  intro i
  simp only [tagL, List.getElem?_map, List.getElem?_mapIdx, Option.map_map]
  cases l[i]? <;> rfl

def newXi (sb mb : Nat) (x : Nat × Nat) (ps : List (Nat × Port)) : Xi
  | 0 => (sb, 0)
  | 1 => x
  | 2 => (mb, 0)
  | i + 3 => (((ps[i]?).map (·.1)).getD 0, 0)

theorem new_c (I : List HE) (me : BId) (v : Value) (cs : List Int) (hv : SliceIn I v (ints cs)) (h0 : 0 < cs.length) (hn : cs.length ≤ 70) :
    TurnC Try.prog I 15 [me.val, v] (fun ξ => if newOk me cs = true then .tuple #[ptr (ξ 0).1, i64 0] else .tuple #[.pointer none, i64 1])
      (fun ξ => if newOk me cs = true then I ++ memS (newS me cs.length ξ) (newPs cs ξ) else I) := by
  intro w hO
  have hv' : ∃ (a : Addr) (cap : Nat), v = .slice (some a) cs.length cap ∧ ∀ w, Owns w I → ∀ (j : Nat) (c : Int), cs[j]? = some c → w.cell? (a.add j) = some (i64 c) := by
    rcases hv with ⟨h, _⟩ | ⟨a, cap, h1, h2⟩
    · simp [ints] at h; subst h; simp at h0
    · rw [ints_len] at h1
      exact ⟨a, cap, h1, fun w hw j c hc => h2 w hw j (i64 c) (by simp [ints, hc])⟩
  obtain ⟨av, cap, rfl, hcell⟩ := hv'
  refine calls_pk (ys := [sv me.val, sv (.slice (some av) cs.length cap)]) Try.func15 (body := bNw) rfl fun a hA => ?_
  refine pk_run2 (w0 := w) (D := blocksOf I) fit safe 100 [] [] [true, true, true, true] [1, 2, 6, 16, 17, 18]
    (fun ν => ⟨[], [], [], .stop (kAt bNw [0, 1, 0, 1, 1]) (frN me (ν 0 0).1 (ν 0 6).1 (sv (.slice (some av) cs.length cap)) cs.length (0 : Nat)) [meE (ν 0 0).1 me, m0E (ν 0 4).1, spX (ν 0 6).1 (ν 0 4).1 (.loc 1 0 0) me vec0 0 (-1) (sv (rowV none 0))] I⟩)
    hA (H := []) (WI.start hO) (fun ν => by kernel_rfl) (fun _ => rfl) (fun _ => trivial) (fun ν a w1 hA hW => ?_)
  generalize (ν 0 0).1 = b0 at hA hW
  generalize (ν 0 4).1 = mb at hA hW
  generalize (ν 0 6).1 = sb at hA hW
  refine pk_range (b := child 0 (sub bNw [0, 1, 0, 1, 1])) rfl cs.length (fun k a w1 => ∃ (x : Nat × Nat) (ps : List (Nat × Port)), ps.map (·.2) = portsN cs k ∧ Agrees 69 (frN me b0 sb (sv (.slice (some av) cs.length cap)) cs.length (k : Nat)) a ∧
    WI w (blocksOf I) ([meE b0 me, m0E mb, spX sb mb (.loc 1 0 0) me vec0 0 (-1) (sv (rowV (rowX k x) k))] ++ ((I ++ ps.map portE) ++ rowH 51 nilP (ptrs ps) k (rowX k x))) w1) ?_ ?_ 0 a w1 (Nat.zero_le _)
    ⟨(0, 0), [], rfl, hA, by simpa [rowX, rowH] using hW⟩
  · rintro k a w1 hk ⟨x, ps, hps, hA, hW⟩ T hT
    obtain ⟨c, hc⟩ : ∃ c, cs[k]? = some c := ⟨cs[k], by simp [hk]⟩
    have hsucc := portsN_succ hc
    have hpl : ps.length = k := by have := congrArg List.length hps; simpa [portsN] using this
    have hop : ∀ nb pb, OpC Try.prog (opK bNw [1, 0, 0, 1, 1, 0, 0, 1, 0, 1, 1] 12) [rowV (rowX k x) k, .slice (some ⟨nb, 0, none⟩) 1 1]
        (⟨nb, .cells 51 [.kn [⟨ptr pb, .loc 3 0 0⟩]]⟩ :: ((I ++ ps.map portE) ++ rowH 51 nilP (ptrs ps) k (rowX k x)))
        (fun ξ => rowV (rowX (k + 1) (ξ 0)) (k + 1)) (fun ξ => hole :: ((I ++ ps.map portE) ++ rowH 51 nilP (ptrs ps ++ [ptr pb]) (k + 1) (rowX (k + 1) (ξ 0)))) := fun nb pb =>
      op_push (P := Try.prog) _ rfl (by kernel_rfl) ptr_info rfl rfl rfl (by kernel_rfl) (by rw [ptrs_len, hpl, Nat.mul_one]) (by simp only [maxLen]; omega) (by omega)
    have hnn : (0 : Int) ≤ (k : Int) := by omega
    have hnk : (k : Int) < (cs.length : Int) := by omega
    have hIn : ∀ (H : List HE) (w : World), Beside H ((I ++ ps.map portE) ++ rowH 51 nilP (ptrs ps) k (rowX k x)) w → Owns w I := fun H w hB => (WI.start hB.1).left.sub_left
    have hri : ReadOp Try.prog (Beside [meE b0 me, m0E mb, spX sb mb (.loc 1 0 0) me vec0 0 (-1) (sv (rowV (rowX k x) k))] ((I ++ ps.map portE) ++ rowH 51 nilP (ptrs ps) k (rowX k x))) [] (opK bNw [0, 0, 0, 1, 1, 0, 0, 1, 0, 1, 1] 1) [.slice (some av) cs.length cap, i64 k] (.pointer (some (av.add ((k : Int).toNat * 1)))) := rd_index (P := Try.prog) (e := 3) (size := 1) rfl (by kernel_rfl) (by kernel_rfl) hnn hnk
    have hrl : ReadOp Try.prog (Beside [meE b0 me, m0E mb, spX sb mb (.loc 1 0 0) me vec0 0 (-1) (sv (rowV (rowX k x) k))] ((I ++ ps.map portE) ++ rowH 51 nilP (ptrs ps) k (rowX k x))) [] (opK bNw [0, 0, 0, 1, 1, 0, 0, 1, 0, 1, 1] 2) [.pointer (some (av.add ((k : Int).toNat * 1)))] (i64 c) :=
      rd_load (P := Try.prog) rfl (by kernel_rfl) (fun w hZ _ => by rw [Int.toNat_natCast, Nat.mul_one]; exact hcell w (hIn _ w hZ) _ _ hc)
    refine pk_run2 fit safe 200 [.d true, .rd [] (.pointer (some (av.add ((k : Int).toNat * 1)))) .no, .rd [] (i64 c) .no, .stop]
      [.run, .dep fun h => .op [4] true (fun ξ => rowV (rowX (k + 1) (ξ 0)) (k + 1)) (fun _ => .no) (fun _ => [hole]) (fun _ => [])
        (fun ξ => (I ++ ps.map portE) ++ rowH 51 nilP (ptrs ps ++ [ptr (h 0 16).1]) (k + 1) (rowX (k + 1) (ξ 0)))] [true, true, true, true] [1, 2, 6, 16, 17, 18]
      (fun ν => ⟨[decide ((k : Int) < (cs.length : Int))], [true], [_, _, _], .stop (.goal T :: kRest bNw [0, 1, 0, 1, 1]) (frN me b0 sb (sv (.slice (some av) cs.length cap)) cs.length (wr ((k : Int) + 1)))
          [meE b0 me, m0E mb, spX sb mb (.loc 1 0 0) me vec0 0 (-1) (sv (rowV (rowX (k + 1) (ν 1 0)) (k + 1))), portE ((ν 0 16).1, port0 (wr ((k : Int) + 1)) c)] ((I ++ ps.map portE) ++ rowH 51 nilP (ptrs ps ++ [ptr (ν 0 16).1]) (k + 1) (rowX (k + 1) (ν 1 0)))⟩)
      hA hW (fun ν => by kernel_rfl) (fun _ => by simpa using hk) (fun ν => ⟨hri, hrl, hop (ν 0 17).1 (ν 0 16).1⟩) (fun ν a w2 hA hW2 => ?_)
    rw [wr_nat (by omega)] at hA
    refine hT a w2 ⟨ν 1 0, ps ++ [((ν 0 16).1, port0 (wr ((k : Int) + 1)) c)], by rw [List.map_append, hps, hsucc]; rfl, hA, hW2.alike (perm_of_cnt fun y => ?_)⟩
    simp only [ptrs, List.map_append, List.map_cons, List.map_nil, keysF_append, keysF_cons, keysF_nil, cnt_append, cnt_nil]
    omega
  · rintro a w1 ⟨x, ps, hps, hA, hW⟩ T
    have hpl : ps.length = cs.length := by have := congrArg List.length hps; simpa [portsN] using this
    generalize hnn : cs.length = n at *
    have hN := portsN_num cs n (by omega) ps hps
    have hsel := sel_none me ps (portsN_down cs n ps hps)
    generalize hS : (⟨sb, x.1, mb, capOf n x.2, me, vec0, 0, -1, [], 0⟩ : Sp) = S
    have hSme : S.me = me := by rw [← hS]
    have hmem : ∀ y, cnt y (keysF ([meE b0 me, spE S n 1] ++ ((arrE S ps :: mapE S :: ps.map portE) ++ I))) = cnt y (keysF ([meE b0 me, m0E mb, spX sb mb (.loc 1 0 0) me vec0 0 (-1) (sv (rowV (rowX n x) n))] ++ ((I ++ ps.map portE) ++ rowH 51 nilP (ptrs ps) n (rowX n x)))) := by
      intro y
      obtain ⟨m, rfl⟩ : ∃ m, n = m + 1 := ⟨n - 1, by omega⟩
      have e1 : keys1 (spE S (m + 1) 1) = keys1 (spX sb mb (.loc 1 0 0) me vec0 0 (-1) (sv (rowV (rowX (m + 1) x) (m + 1)))) := by rw [← hS]; rfl
      have e2 : keys1 (arrE S ps) = keys1 ⟨x.1, .cells 51 [.op (ptrs ps ++ padZ nilP (capOf (m + 1) x.2 - (m + 1)))]⟩ := by rw [← hS, ← hpl]; rfl
      have e3 : keys1 (mapE S) = keys1 (m0E mb) := by rw [← hS]; rfl
      simp only [rowX, rowH, keysF_append, keysF_cons, keysF_nil, cnt_append, cnt_nil, e1, e2, e3]
      omega
    subst hpl
    have hW1 : WI w (blocksOf I) ([meE b0 me, spE S ps.length 1] ++ ((arrE S ps :: mapE S :: ps.map portE) ++ I)) w1 := hW.alike (perm_of_cnt fun y => (hmem y).symm)
    have hfr : Agrees 69 [(1, .val (sv (.slice (some av) ps.length cap))), (2, .val (pv b0 0)), (6, .val (pv S.b 1)), (17, .val (sv (i64 ps.length))), (18, .val (sv (i64 ps.length)))] a := by
      rw [← hS]
      exact (hA.slots [1, 2, 6, 17, 18]).like rfl
    have hho : NewCallC Try.prog (Beside [meE b0 me, spE S ps.length 1] ((arrE S ps :: mapE S :: ps.map portE) ++ I)) [meE b0 me, spE S ps.length 1] 34 [ptr S.b] (fun b c => .slice (some ⟨b, 0, none⟩) ps.length c) (fun b c => .cells 56 [.op (heardL ps ++ padZ heard0.val (c - ps.length))]) := by
      refine NewCall.beside ?_
      have := heards_new S ps (by omega) (by omega)
      refine this.wide (meE b0 me :: I) (perm_of_cnt fun y => ?_)
      simp only [memS, keysF_append, keysF_cons, keysF_nil, cnt_append, cnt_nil]
      omega
    have hok : newOk me cs = (!prioB me && decide (fairOf ps = 0)) := by
      rw [newOk, fair_snd (ps' := ps) (by rw [tagL_snd, hps, hnn])]
    rw [hok]
    have hξ : newS me ps.length (newXi sb mb x ps) = withBest S (vecMe me) := by rw [← hS]; rfl
    have hξp : newPs cs (newXi sb mb x ps) = ps := by
      rw [newPs, hnn, ← hps]
      exact tagL_of ps fun i q hq => by simp [newXi, hq]
    have hts : ∀ b, (cond (cond (cond (decide ((ps.length : Int) < 1)) true (decide (me.prio < 0))) true (decide (me.prio > 65535))) true b) = cond (prioB me) true b := fun b => by
      have : decide ((ps.length : Int) < 1) = false := by simp; omega
      rw [this, prioB]; rfl
    by_cases hf : fairOf ps = 0
    · have hsn := fun b c => select_new me b c ps hN hf
      simp only [hsel] at hsn
      cases hp : prioB me with
      | false =>
        simp only [hf, Bool.not_false, decide_true, Bool.and_self, if_true]
        refine pk_run2 fit safe 200 [.d false, .newC [0, 1] (fun b c => .slice (some ⟨b, 0, none⟩) ps.length c) (fun pos => .loc pos 0 0) (fun b c => .cells 56 [.op (heardL ps ++ padZ heard0.val (c - ps.length))]),
            .new [2] (fun b _ => .tuple #[(vecMe me).val, .slice (some ⟨b, 0, none⟩) ps.length ps.length, i64 0]) (fun pos => .many [.no, .loc pos 0 0, .no]) (fun b _ => (outO b ((rolesOf me (vecMe me) (-1) ps).map i64)).o), .d false]
          [] [false, true] []
          (fun ν => ⟨[decide ((ps.length : Int) < (ps.length : Int)), cond (cond (cond (decide ((ps.length : Int) < 1)) true (decide (me.prio < 0))) true (decide (me.prio > 65535))) true false], [false, false], [_, _], .ret (.tuple #[ptr S.b, i64 0]) (facts [spE (withBest S (vecMe me)) ps.length 1]) ((arrE S ps :: mapE S :: ps.map portE) ++ I)⟩)
          hfr hW1 (fun ν => by kernel_rfl) (fun _ => by simp only [hts, hp]; simp) (fun ν => ⟨hho, hsn (ν 0 3).1 (ν 0 3).2⟩) (fun ν w2 hW2 => ⟨newXi sb mb x ps, by rw [← hS]; rfl, ?_⟩)
        rw [hξ, hξp]
        refine (hW2 _ rfl).alike (perm_of_cnt fun y => ?_)
        rw [show arrE S ps = arrE (withBest S (vecMe me)) ps from rfl, show mapE S = mapE (withBest S (vecMe me)) from rfl]
        simp only [memS, keysF_append, keysF_cons, keysF_nil, cnt_append, cnt_nil]
        omega
      | true =>
        simp only [hf, Bool.not_true, decide_true, Bool.false_and, Bool.false_eq_true, if_false]
        refine pk_run2 fit safe 200 [.d false, .newC [0, 1] (fun b c => .slice (some ⟨b, 0, none⟩) ps.length c) (fun pos => .loc pos 0 0) (fun b c => .cells 56 [.op (heardL ps ++ padZ heard0.val (c - ps.length))]),
            .new [2] (fun b _ => .tuple #[(vecMe me).val, .slice (some ⟨b, 0, none⟩) ps.length ps.length, i64 0]) (fun pos => .many [.no, .loc pos 0 0, .no]) (fun b _ => (outO b ((rolesOf me (vecMe me) (-1) ps).map i64)).o), .d true]
          [] [] []
          (fun ν => ⟨[decide ((ps.length : Int) < (ps.length : Int)), cond (cond (cond (decide ((ps.length : Int) < 1)) true (decide (me.prio < 0))) true (decide (me.prio > 65535))) true false], [false, true], [_, _], .ret (.tuple #[.pointer none, i64 1]) [] ((arrE S ps :: mapE S :: ps.map portE) ++ I)⟩)
          hfr hW1 (fun ν => by kernel_rfl) (fun _ => by simp only [hts, hp]; simp) (fun ν => ⟨hho, hsn (ν 0 3).1 (ν 0 3).2⟩) (fun ν w2 hW2 => ⟨fun _ => (0, 0), rfl, ?_⟩)
        exact ((hW2 [] rfl).sub (List.sublist_append_right _ _))
    · have hsn := fun b c => select_bad me b c ps hN hf
      have hfz : (fairOf ps != 0) = true := by simpa using hf
      simp only [hf, decide_false, Bool.and_false, Bool.false_eq_true, if_false]
      refine pk_run2 fit safe 200 [.d false, .newC [0, 1] (fun b c => .slice (some ⟨b, 0, none⟩) ps.length c) (fun pos => .loc pos 0 0) (fun b c => .cells 56 [.op (heardL ps ++ padZ heard0.val (c - ps.length))]),
          .read [2] (.tuple #[vec0.val, .slice none 0 0, i64 (fairOf ps)]), .d true]
        [] [] []
        (fun ν => ⟨[decide ((ps.length : Int) < (ps.length : Int)), cond (cond (cond (decide ((ps.length : Int) < 1)) true (decide (me.prio < 0))) true (decide (me.prio > 65535))) true (fairOf ps != 0)], [false, true], [_, _], .ret (.tuple #[.pointer none, i64 1]) [] ((arrE S ps :: mapE S :: ps.map portE) ++ I)⟩)
        hfr hW1 (fun ν => by kernel_rfl) (fun _ => by simp only [hts, hfz]; cases prioB me <;> simp) (fun ν => ⟨hho, hsn (ν 0 3).1 (ν 0 3).2⟩) (fun ν w2 hW2 => ⟨fun _ => (0, 0), rfl, ?_⟩)
      exact ((hW2 [] rfl).sub (List.sublist_append_right _ _))
end Go.Proofs.Ytbbpmhbeohpmnaa
