/- Two bridges that are awake. -/
import Derived.Test.YtbbpmhbeohpmnaaSpV
namespace Go.Proofs.Ytbbpmhbeohpmnaa
open Rx Go.RowKit

abbrev intE (b c : Nat) (l : List Int) : HE := ⟨b, .cells 3 [.op (ints l ++ padZ (i64 0) (c - l.length))]⟩
abbrev intV (b c : Nat) (l : List Int) : Value := .slice (some ⟨b, 0, none⟩) l.length c

theorem Roles_c (S : Sp) (ps : List (Nat × Port)) (hn : ps.length ≤ 64) (h0 : 0 < ps.length) :
    TurnC Try.prog (memS S ps) 8 [ptr S.b] (fun ξ => intV (ξ 0).1 (ξ 0).2 (ps.map fun q => numRoles q.2)) (fun ξ => memS S ps ++ [intE (ξ 0).1 (ξ 0).2 (ps.map fun q => numRoles q.2)]) := by
  intro w hO
  have hl : (ps.map fun q => numRoles q.2).length = ps.length := by simp
  have h1 := (those_Roles S ps hn h0).c (fun _ _ => rfl)
  have h2 : TurnC Try.prog (memS S ps) 27 [ptr S.b, fnV 28] (fun ξ => intV (ξ 0).1 (ξ 0).2 (ps.map fun q => numRoles q.2)) (fun ξ => memS S ps ++ [intE (ξ 0).1 (ξ 0).2 (ps.map fun q => numRoles q.2)]) := by
    simp only [intV, intE, hl]
    exact h1
  refine calls_pk (ys := [sv (ptr S.b)]) Try.func8 (body := bodyOf Try.f8) rfl fun a hA => ?_
  exact pk_run2 (w0 := w) (D := blocksOf (memS S ps)) fit safe 100 [.stop] [.run, callF (fun ξ => intV (ξ 0).1 (ξ 0).2 (ps.map fun q => numRoles q.2)) (fun ξ => memS S ps ++ [intE (ξ 0).1 (ξ 0).2 (ps.map fun q => numRoles q.2)])] [] []
    (fun ν => ⟨[], [], [_], .ret (intV (ν 1 0).1 (ν 1 0).2 (ps.map fun q => numRoles q.2)) [] (memS S ps ++ [intE (ν 1 0).1 (ν 1 0).2 (ps.map fun q => numRoles q.2)])⟩)
    hA (H := []) (WI.start hO) (fun ν => by kernel_rfl) (fun _ => rfl) (fun _ => h2) (fun ν w1 hW => ⟨ν 1, rfl, hW [] rfl⟩)
theorem States_c (S : Sp) (ps : List (Nat × Port)) (hn : ps.length ≤ 64) (h0 : 0 < ps.length) :
    TurnC Try.prog (memS S ps) 10 [ptr S.b] (fun ξ => intV (ξ 0).1 (ξ 0).2 (ps.map fun q => numStates q.2)) (fun ξ => memS S ps ++ [intE (ξ 0).1 (ξ 0).2 (ps.map fun q => numStates q.2)]) := by
  intro w hO
  have hl : (ps.map fun q => numStates q.2).length = ps.length := by simp
  have h1 := (those_States S ps hn h0).c (fun _ _ => rfl)
  have h2 : TurnC Try.prog (memS S ps) 27 [ptr S.b, fnV 29] (fun ξ => intV (ξ 0).1 (ξ 0).2 (ps.map fun q => numStates q.2)) (fun ξ => memS S ps ++ [intE (ξ 0).1 (ξ 0).2 (ps.map fun q => numStates q.2)]) := by
    simp only [intV, intE, hl]
    exact h1
  refine calls_pk (ys := [sv (ptr S.b)]) Try.func10 (body := bodyOf Try.f10) rfl fun a hA => ?_
  exact pk_run2 (w0 := w) (D := blocksOf (memS S ps)) fit safe 100 [.stop] [.run, callF (fun ξ => intV (ξ 0).1 (ξ 0).2 (ps.map fun q => numStates q.2)) (fun ξ => memS S ps ++ [intE (ξ 0).1 (ξ 0).2 (ps.map fun q => numStates q.2)])] [] []
    (fun ν => ⟨[], [], [_], .ret (intV (ν 1 0).1 (ν 1 0).2 (ps.map fun q => numStates q.2)) [] (memS S ps ++ [intE (ν 1 0).1 (ν 1 0).2 (ps.map fun q => numStates q.2)])⟩)
    hA (H := []) (WI.start hO) (fun ν => by kernel_rfl) (fun _ => rfl) (fun _ => h2) (fun ν w1 hW => ⟨ν 1, rfl, hW [] rfl⟩)
theorem best_read (S : Sp) (n : Nat) : ReadCall Try.prog [spE S n 1] 9 [ptr S.b] S.best.val :=
  read_run fit safe Try.func9 rfl [pv S.b 0] [spE S n 1] 100 [] [true] [] [] (fun _ => []) (fun ν => by kernel_rfl) rfl (fun _ => trivial)
theorem best_c (S : Sp) (ps : List (Nat × Port)) : TurnC Try.prog (memS S ps) 9 [ptr S.b] (fun _ => S.best.val) (fun _ => memS S ps) :=
  (((best_read S ps.length).c.frame (arrE S ps :: mapE S :: ps.map portE)))

def idb (n : UInt8) : BId := ⟨32768, ⟨2, 0, 0, 0, 0, n⟩⟩
def awM (ξ1 ξ2 : Xi) : Mt := ⟨(madeOf (idb 1) [5] ξ1).1, (madeOf (idb 1) [5] ξ1).2, (madeOf (idb 2) [5] ξ2).1, (madeOf (idb 2) [5] ξ2).2⟩
theorem aw_new (n : UInt8) : newOk (idb n) [5] = true := by kernel_rfl
theorem aw_fair (n : UInt8) (ξ : Xi) : Fair (madeOf (idb n) [5] ξ).2 := (made_same _ _ (newPs_fair (idb n) [5] ξ (by simp) (by simp) (aw_new n)) 1).2.2
theorem aw_b (n : UInt8) (ξ : Xi) : (madeOf (idb n) [5] ξ).1.b = (ξ 0).1 := by kernel_rfl
theorem aw_ok (ξ1 ξ2 : Xi) : mtAll (awM ξ1 ξ2) = true := by kernel_rfl
theorem aw_sa (ξ1 ξ2 : Xi) : (mtAt (awM ξ1 ξ2) 3).pa.map (fun q => numStates q.2) = [2] := by kernel_rfl
theorem aw_sb (ξ1 ξ2 : Xi) : (mtAt (awM ξ1 ξ2) 3).pb.map (fun q => numStates q.2) = [2] := by kernel_rfl
theorem aw_best (ξ1 ξ2 : Xi) : (mtAt (awM ξ1 ξ2) 3).B.best.root = idb 1 := by kernel_rfl

noncomputable abbrev bAw : Code := bodyOf Try.f4
def oneE (b : Nat) (n : Int) : HE := ⟨b, .cells 3 [known [i64 n]]⟩
def oneV (b : Nat) : Value := .slice (some ⟨b, 0, none⟩) 1 1
theorem one_in (b : Nat) (n : Int) (F : List HE) : SliceIn (oneE b n :: F) (oneV b) (ints [n]) := by
  refine .inr ⟨⟨b, 0, none⟩, 1, rfl, fun w hO j x hj => ?_⟩
  have hb := hO.1 (oneE b n) (by simp) rfl
  have hb' : w.heap[b]? = some (.cells [i64 n].toArray 3 (0, 0)) := hb
  rw [add_eq]
  simp only [Nat.zero_add]
  rw [cell_block hb' j]
  exact hj

theorem made_aw (n : UInt8) (b : Nat) (F : List HE) : TurnC Try.prog (oneE b 5 :: F) 5 [(idb n).val, oneV b] (fun ξ => .tuple #[ptr (ξ 0).1, .bool true]) (fun ξ => hole :: (F ++ memS (madeOf (idb n) [5] ξ).1 (madeOf (idb n) [5] ξ).2)) :=
  (made_good (oneE b 5 :: F) (idb n) (oneV b) [5] (one_in b 5 F) (by simp) (by simp) (aw_new n)).drop (fun _ => [oneE b 5]) (List.Perm.refl _) fun ξ => perm_of_cnt fun y => by
    simp only [keysF_append, keysF_cons, keysF_nil, keys1_hole, cnt_append, cnt_nil]; omega

theorem same_aw (b b' c : Nat) (l : List Int) (n : Int) (F : List HE) (hl : l = [n]) : TurnC Try.prog (oneE b n :: (F ++ [intE b' c l])) 14 [intV b' c l, oneV b] (fun _ => .bool true) (fun _ => hole :: F) := by
  have h1 : SliceIn (oneE b n :: (F ++ [intE b' c l])) (intV b' c l) (ints l) := by
    have := SliceIn.of_block (ys := padZ (i64 0) (c - l.length)) (cap := c) (b := b') (ty := 3) (xs := ints l) (oneE b n :: (F ++ [intE b' c l])) (by simp)
    rw [ints_len] at this
    exact this
  have h := (same_read (oneE b n :: (F ++ [intE b' c l])) (intV b' c l) (oneV b) l [n] h1 (one_in b n _) (by rw [hl]; simp)).c
  rw [show decide (l = [n]) = true from by simp [hl]] at h
  exact h.drop (fun _ => [oneE b n, intE b' c l]) (List.Perm.refl _) fun ξ => perm_of_cnt fun y => by
    simp only [keysF_append, keysF_cons, keysF_nil, keys1_hole, cnt_append, cnt_nil]; omega

theorem aw_ab (ξ1 ξ2 : Xi) : (mtAt (awM ξ1 ξ2) 3).A.b = (ξ1 0).1 := by kernel_rfl
theorem aw_bb (ξ1 ξ2 : Xi) : (mtAt (awM ξ1 ξ2) 3).B.b = (ξ2 0).1 := by kernel_rfl
theorem aw_la (ξ1 ξ2 : Xi) : (mtAt (awM ξ1 ξ2) 3).pa.length = 1 := by kernel_rfl
theorem aw_lb (ξ1 ξ2 : Xi) : (mtAt (awM ξ1 ξ2) 3).pb.length = 1 := by kernel_rfl
abbrev awF (M : Mt) : List HE := memS M.A M.pa ++ memS M.B M.pb
def awV (ξ1 ξ2 : Xi) : Vec := { (mtAt (awM ξ1 ξ2) 3).B.best with root := idb 1 }

theorem aw_meet (ξ1 ξ2 : Xi) : TurnC Try.prog (awF (awM ξ1 ξ2)) 13 [ptr (ξ1 0).1, ptr (ξ2 0).1, i64 0, i64 3] (fun _ => .bool true) (fun _ => awF (mtAt (awM ξ1 ξ2) 3)) := by
  have := meet_c [] (awM ξ1 ξ2) (aw_fair 1 ξ1) (aw_fair 2 ξ2) (aw_ok ξ1 ξ2)
  rw [show (awM ξ1 ξ2).A.b = (ξ1 0).1 from aw_b 1 ξ1, show (awM ξ1 ξ2).B.b = (ξ2 0).1 from aw_b 2 ξ2] at this
  exact this
theorem aw_stA (ξ1 ξ2 : Xi) : TurnC Try.prog (awF (mtAt (awM ξ1 ξ2) 3)) 10 [ptr (ξ1 0).1] (fun ξ => intV (ξ 0).1 (ξ 0).2 [2]) (fun ξ => awF (mtAt (awM ξ1 ξ2) 3) ++ [intE (ξ 0).1 (ξ 0).2 [2]]) := by
  have := States_c (mtAt (awM ξ1 ξ2) 3).A (mtAt (awM ξ1 ξ2) 3).pa (by rw [aw_la]; omega) (by rw [aw_la]; omega)
  rw [aw_ab, aw_sa] at this
  exact (this.frame (memS (mtAt (awM ξ1 ξ2) 3).B (mtAt (awM ξ1 ξ2) 3).pb)).alike (List.Perm.refl _) fun ξ => perm_of_cnt fun y => by simp only [awF, keysF_append, cnt_append]; omega
theorem aw_stB (ξ1 ξ2 : Xi) : TurnC Try.prog (awF (mtAt (awM ξ1 ξ2) 3)) 10 [ptr (ξ2 0).1] (fun ξ => intV (ξ 0).1 (ξ 0).2 [2]) (fun ξ => awF (mtAt (awM ξ1 ξ2) 3) ++ [intE (ξ 0).1 (ξ 0).2 [2]]) := by
  have := States_c (mtAt (awM ξ1 ξ2) 3).B (mtAt (awM ξ1 ξ2) 3).pb (by rw [aw_lb]; omega) (by rw [aw_lb]; omega)
  rw [aw_bb, aw_sb] at this
  exact (this.frame (memS (mtAt (awM ξ1 ξ2) 3).A (mtAt (awM ξ1 ξ2) 3).pa)).alike (perm_of_cnt fun y => by simp only [awF, keysF_append, cnt_append]; omega) fun ξ => perm_of_cnt fun y => by simp only [awF, keysF_append, cnt_append]; omega
theorem aw_bestB (ξ1 ξ2 : Xi) : TurnC Try.prog (awF (mtAt (awM ξ1 ξ2) 3)) 9 [ptr (ξ2 0).1] (fun _ => (awV ξ1 ξ2).val) (fun _ => awF (mtAt (awM ξ1 ξ2) 3)) := by
  have := best_c (mtAt (awM ξ1 ξ2) 3).B (mtAt (awM ξ1 ξ2) 3).pb
  rw [aw_bb, show (mtAt (awM ξ1 ξ2) 3).B.best = awV ξ1 ξ2 by unfold awV; rw [← aw_best ξ1 ξ2]] at this
  exact (this.frame (memS (mtAt (awM ξ1 ξ2) 3).A (mtAt (awM ξ1 ξ2) 3).pa)).alike (perm_of_cnt fun y => by simp only [awF, keysF_append, cnt_append]; omega) fun ξ => perm_of_cnt fun y => by simp only [awF, keysF_append, cnt_append]; omega

theorem awake_c : TurnC Try.prog [] 4 [] (fun _ => .bool true) (fun _ => []) := by
  intro w hO
  refine calls_pk (ys := []) Try.func4 (body := bAw) rfl fun a hA => ?_
  refine pk_run2 (w0 := w) (D := blocksOf []) fit safe 300 [.pure (idb 1).val, .stop, .pure (idb 2).val, .stop, .d false, .stop, .g true, .stop, .stop, .g true, .stop, .stop, .g true, .stop, .pure (idb 1).val]
    [.run, .turn [0] true (fun ξ => .tuple #[ptr (ξ 0).1, .bool true]) (fun _ => .no) (fun _ => [hole]) (fun _ => []) (fun ξ => memS (madeOf (idb 1) [5] ξ).1 (madeOf (idb 1) [5] ξ).2),
     .run, .dep fun h => .turn [1] true (fun ξ => .tuple #[ptr (ξ 0).1, .bool true]) (fun _ => .no) (fun _ => [hole]) (fun _ => []) (fun ξ => awF (awM (h 1) ξ)),
     .run, .dep fun h => callF (fun _ => .bool true) (fun _ => awF (mtAt (awM (h 1) (h 3)) 3)),
     .run, .dep fun h => callF (fun ξ => intV (ξ 0).1 (ξ 0).2 [2]) (fun ξ => awF (mtAt (awM (h 1) (h 3)) 3) ++ [intE (ξ 0).1 (ξ 0).2 [2]]),
     .run, .dep fun h => .turn [2] true (fun _ => .bool true) (fun _ => .no) (fun _ => [hole]) (fun _ => []) (fun _ => awF (mtAt (awM (h 1) (h 3)) 3)),
     .run, .dep fun h => callF (fun ξ => intV (ξ 0).1 (ξ 0).2 [2]) (fun ξ => awF (mtAt (awM (h 1) (h 3)) 3) ++ [intE (ξ 0).1 (ξ 0).2 [2]]),
     .run, .dep fun h => .turn [3] true (fun _ => .bool true) (fun _ => .no) (fun _ => [hole]) (fun _ => []) (fun _ => awF (mtAt (awM (h 1) (h 3)) 3)),
     .run, .dep fun h => callF (fun _ => (awV (h 1) (h 3)).val) (fun _ => awF (mtAt (awM (h 1) (h 3)) 3))] [] []
    (fun ν => ⟨[false, true, true, true], [false, true, true, true], [_, _, _, _, _, _, _, _, _, _, _], .ret (.bool true) [] (awF (mtAt (awM (ν 1) (ν 3)) 3))⟩)
    hA (H := []) (WI.start hO) (fun ν => by kernel_rfl) (fun _ => rfl) (fun ν => ⟨id_any 1, made_aw 1 (ν 0 2).1 [], id_any 2, made_aw 2 (ν 2 6).1 (memS (madeOf (idb 1) [5] (ν 1)).1 (madeOf (idb 1) [5] (ν 1)).2), aw_meet (ν 1) (ν 3), aw_stA (ν 1) (ν 3), same_aw (ν 8 0).1 (ν 7 0).1 (ν 7 0).2 [2] 2 (awF (mtAt (awM (ν 1) (ν 3)) 3)) rfl, aw_stB (ν 1) (ν 3), same_aw (ν 12 0).1 (ν 11 0).1 (ν 11 0).2 [2] 2 (awF (mtAt (awM (ν 1) (ν 3)) 3)) rfl, aw_bestB (ν 1) (ν 3), id_any 1⟩) (fun ν w1 hW => ⟨ν 1, rfl, ?_⟩)
  exact (hW [] rfl).sub (by simp)
end Go.Proofs.Ytbbpmhbeohpmnaa
