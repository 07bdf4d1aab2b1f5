/- Numbers of all ports: roles, states; the best way. -/
import Derived.Test.YtbbpmhbeohpmnaaSpO
import Derived.Test.YtbbpmhbeohpmnaaEngG
namespace Go.Proofs.Ytbbpmhbeohpmnaa
open Rx Go.RowKit
def numRoles (p : Port) : Int := p.role
def numStates (p : Port) : Int := p.state

theorem roleRoles_read (q : Nat × Port) : ReadCall Try.prog [portE q] 28 [ptr q.1] (i64 (numRoles q.2)) :=
  read_run fit safe Try.func28 rfl [pv q.1 0] [portE q] 100 [] [true] [] [] (fun _ => []) (fun ν => by kernel_rfl) rfl (fun _ => trivial)
theorem roleStates_read (q : Nat × Port) : ReadCall Try.prog [portE q] 29 [ptr q.1] (i64 (numStates q.2)) :=
  read_run fit safe Try.func29 rfl [pv q.1 0] [portE q] 100 [] [true] [] [] (fun _ => []) (fun ν => by kernel_rfl) rfl (fun _ => trivial)

noncomputable abbrev b27t : Code := bodyOf Try.f27
def fnV (f : Nat) : Value := .func (.func f) #[] #[]
def ints (l : List Int) : List Value := l.map i64
theorem ints_len (l : List Int) : (ints l).length = l.length := by simp [ints]
abbrev frQ (S : Sp) (fo n : Nat) (v : Value) (k : Int) : Fr := [(0, .val (pv S.b 0)), (1, .val (sv (fnV fo))), (5, .val (sv v)), (11, .val (spV S n 1)), (12, .val (sv (i64 n))), (13, .val (sv (i64 k)))]

theorem memS_full {S : Sp} {ps : List (Nat × Port)} : ∀ e ∈ memS S ps, e.o.full = true := by
  intro e he
  simp only [memS, List.mem_cons, List.mem_map] at he
  rcases he with rfl | rfl | rfl | ⟨q, _, rfl⟩ <;> rfl

theorem those_Roles (S : Sp) (ps : List (Nat × Port)) (hn : ps.length ≤ 64) (h0 : 0 < ps.length) :
    NewCall Try.prog (memS S ps) 27 [ptr S.b, fnV 28] (fun b c => .slice (some ⟨b, 0, none⟩) ps.length c)
      (fun _b c => .cells 3 [.op (ints (ps.map fun q => numRoles q.2) ++ padZ (i64 0) (c - ps.length))]) := by
  intro w hO
  refine calls_pk (ys := [pv S.b 0, sv (fnV 28)]) Try.func27 (body := b27t) rfl fun a hA => ?_
  refine pk_run2 (w0 := w) (D := blocksOf (memS S ps)) fit safe 100 [] [] [true] [0, 1, 5, 11, 12, 13]
    (fun _ => ⟨[], [], [], .stop (kAt b27t [0, 1, 0, 1, 1]) (frQ S 28 ps.length (rowV none 0) (0 : Nat)) [spE S ps.length 1] (arrE S ps :: mapE S :: ps.map portE)⟩)
    hA (H := [spE S ps.length 1]) (WI.start hO) (fun ν => by kernel_rfl) (fun _ => rfl) (fun _ => trivial) (fun ν a w1 hA hW => ?_)
  refine pk_range (b := child 0 (sub b27t [0, 1, 0, 1, 1])) rfl ps.length (fun k a w1 => ∃ r, rowOk r k ∧ Agrees 25 (frQ S 28 ps.length (rowV r k) (k : Nat)) a ∧
    WI w (blocksOf (memS S ps)) (memS S ps ++ rowH 3 (i64 0) (ints ((ps.take k).map fun q => numRoles q.2)) k r) w1) ?_ ?_ 0 a w1 (Nat.zero_le _) ⟨none, rfl, hA, by simpa [rowH, memS] using hW⟩
  · rintro k a w1 hk ⟨r, hr, hA, hW⟩ T hT
    have hs := split_at hk
    have hps : ps.take (k + 1) = ps.take k ++ [ps[k]] := by rw [List.take_succ_eq_append_getElem hk]
    have hlp : (ps.take k).length = k := by rw [List.length_take]; omega
    generalize ps[k] = q at hs hps
    generalize ps.take k = pre at hs hps hW hlp
    generalize ps.drop (k + 1) = post at hs
    have hfoc := mem_focus S pre q post 1 3
    rw [← hs] at hfoc
    have hfk : ∀ x, cnt x (keysF (memS S ps)) = cnt x (keysF [spE S ps.length 1, arrF S pre q post 3, mapE S, portE q]) + cnt x (keysF ((pre ++ post).map portE)) := fun x => by
      rw [← cnt_append, ← keysF_append]; exact cnt_of_perm (hfoc.filter _) x
    have hW1 : WI w (blocksOf (memS S ps)) ([spE S ps.length 1, arrF S pre q post 3, mapE S, portE q] ++ ((pre ++ post).map portE ++ rowH 3 (i64 0) (ints (pre.map fun q => numRoles q.2)) k r)) w1 :=
      hW.alike (perm_of_cnt fun x => by have := hfk x; simp only [keysF_append, cnt_append] at this ⊢; omega)
    have hix : IxOk k ps.length 0 1 (ptrs pre).length := by simp [IxOk, ptrs, hlp]; omega
    have hop : ∀ nb, OpC Try.prog (opK b27t [1, 0, 0, 1, 1, 0, 0, 1, 0, 1, 1] 5) [rowV r k, .slice (some ⟨nb, 0, none⟩) 1 1]
        (⟨nb, .cells 3 [known [i64 (numRoles q.2)]]⟩ :: ((pre ++ post).map portE ++ rowH 3 (i64 0) (ints (pre.map fun q => numRoles q.2)) k r))
        (fun ξ => .slice (some ⟨(ξ 0).1, 0, none⟩) (k + 1) (capOf (k + 1) (ξ 0).2))
        (fun ξ => hole :: ((pre ++ post).map portE ++ rowH 3 (i64 0) (ints ((pre ++ [q]).map fun q => numRoles q.2)) (k + 1) (some ((ξ 0).1, capOf (k + 1) (ξ 0).2)))) := fun nb => by
      refine OpC.drop ((op_append (P := Try.prog) (X := ⟨nb, .cells 3 [known [i64 (numRoles q.2)]]⟩) (r := r) (k := k) (xs := ints (pre.map fun q => numRoles q.2)) (z := i64 0) (m := 1) (cm := 1) (news := [i64 (numRoles q.2)]) rfl (by kernel_rfl) int_info rfl hr (by rw [ints_len, List.length_map, hlp, Nat.mul_one]) (by omega) rfl rfl (one_of (by kernel_rfl)) (by simp only [maxLen]; omega) (by omega)).frame ((pre ++ post).map portE)) [⟨nb, .cells 3 [known [i64 (numRoles q.2)]]⟩] ?_ fun ξ => ?_
      · exact perm_of_cnt fun x => by simp only [keysF_cons, keysF_append, cnt_append]; omega
      · exact perm_of_cnt fun x => by simp only [keysF_cons, keysF_nil, keys1_hole, keysF_append, cnt_append, cnt_nil, List.map_append, ints, List.map_cons, List.map_nil]; omega
    refine pk_run2 (H := [spE S ps.length 1, arrF S pre q post 3, mapE S, portE q]) (F := (pre ++ post).map portE ++ rowH 3 (i64 0) (ints (pre.map fun q => numRoles q.2)) k r) fit safe 100 [.d true, .ix 1 0, .read [3] (i64 (numRoles q.2)), .stop]
      [.run, .op [4] true (fun ξ => .slice (some ⟨(ξ 0).1, 0, none⟩) (k + 1) (capOf (k + 1) (ξ 0).2)) (fun _ => .no) (fun _ => [hole]) (fun _ => [])
        (fun ξ => (pre ++ post).map portE ++ rowH 3 (i64 0) (ints ((pre ++ [q]).map fun q => numRoles q.2)) (k + 1) (some ((ξ 0).1, capOf (k + 1) (ξ 0).2)))]
      [true, true, true, true] [0, 1, 5, 11, 12, 13]
      (fun ν => ⟨[decide ((k : Int) < (ps.length : Int))], [true], [_, _, _], .stop (.goal T :: kRest b27t [0, 1, 0, 1, 1]) (frQ S 28 ps.length (.slice (some ⟨(ν 1 0).1, 0, none⟩) (k + 1) (capOf (k + 1) (ν 1 0).2)) (wr ((k : Int) + 1)))
        [spE S ps.length 1, arrF S pre q post 3, mapE S, portE q] ((pre ++ post).map portE ++ rowH 3 (i64 0) (ints ((pre ++ [q]).map fun q => numRoles q.2)) (k + 1) (some ((ν 1 0).1, capOf (k + 1) (ν 1 0).2)))⟩)
      hA hW1 (fun ν => by kernel_rfl) (fun _ => by simpa using hk) (fun ν => ⟨hix, roleRoles_read q, hop (ν 0 8).1⟩) (fun ν a w2 hA hW2 => ?_)
    rw [wr_nat (by omega)] at hA
    refine hT a w2 ⟨some ((ν 1 0).1, capOf (k + 1) (ν 1 0).2), capOf_row (by simp only [maxLen]; omega), hA, ?_⟩
    rw [hps]
    exact hW2.alike (perm_of_cnt fun x => by have := hfk x; simp only [keysF_append, cnt_append] at this ⊢; omega)
  · rintro a w1 ⟨r, hr, hA, hW⟩ T
    cases r with
    | none => simp only [rowOk] at hr; omega
    | some bc =>
      obtain ⟨b', c'⟩ := bc
      rw [List.take_length] at hW
      refine pk_run2 (H := []) fit safe 100 [.d false] [] [] []
        (fun ν => ⟨[decide ((ps.length : Int) < (ps.length : Int))], [false], [], .ret (.slice (some ⟨b', 0, none⟩) ps.length c') [] (memS S ps ++ rowH 3 (i64 0) (ints (ps.map fun q => numRoles q.2)) ps.length (some (b', c')))⟩)
        hA hW (fun ν => by kernel_rfl) (fun _ => by simp) (fun _ => trivial) (fun ν w2 hW2 => ?_)
      obtain ⟨g1, g2, g3⟩ := new_of (hW2 [] rfl) hO memS_full
      exact ⟨b', c', rfl, g1, g2, g3⟩
theorem those_States (S : Sp) (ps : List (Nat × Port)) (hn : ps.length ≤ 64) (h0 : 0 < ps.length) :
    NewCall Try.prog (memS S ps) 27 [ptr S.b, fnV 29] (fun b c => .slice (some ⟨b, 0, none⟩) ps.length c)
      (fun _b c => .cells 3 [.op (ints (ps.map fun q => numStates q.2) ++ padZ (i64 0) (c - ps.length))]) := by
  intro w hO
  refine calls_pk (ys := [pv S.b 0, sv (fnV 29)]) Try.func27 (body := b27t) rfl fun a hA => ?_
  refine pk_run2 (w0 := w) (D := blocksOf (memS S ps)) fit safe 100 [] [] [true] [0, 1, 5, 11, 12, 13]
    (fun _ => ⟨[], [], [], .stop (kAt b27t [0, 1, 0, 1, 1]) (frQ S 29 ps.length (rowV none 0) (0 : Nat)) [spE S ps.length 1] (arrE S ps :: mapE S :: ps.map portE)⟩)
    hA (H := [spE S ps.length 1]) (WI.start hO) (fun ν => by kernel_rfl) (fun _ => rfl) (fun _ => trivial) (fun ν a w1 hA hW => ?_)
  refine pk_range (b := child 0 (sub b27t [0, 1, 0, 1, 1])) rfl ps.length (fun k a w1 => ∃ r, rowOk r k ∧ Agrees 25 (frQ S 29 ps.length (rowV r k) (k : Nat)) a ∧
    WI w (blocksOf (memS S ps)) (memS S ps ++ rowH 3 (i64 0) (ints ((ps.take k).map fun q => numStates q.2)) k r) w1) ?_ ?_ 0 a w1 (Nat.zero_le _) ⟨none, rfl, hA, by simpa [rowH, memS] using hW⟩
  · rintro k a w1 hk ⟨r, hr, hA, hW⟩ T hT
    have hs := split_at hk
    have hps : ps.take (k + 1) = ps.take k ++ [ps[k]] := by rw [List.take_succ_eq_append_getElem hk]
    have hlp : (ps.take k).length = k := by rw [List.length_take]; omega
    generalize ps[k] = q at hs hps
    generalize ps.take k = pre at hs hps hW hlp
    generalize ps.drop (k + 1) = post at hs
    have hfoc := mem_focus S pre q post 1 3
    rw [← hs] at hfoc
    have hfk : ∀ x, cnt x (keysF (memS S ps)) = cnt x (keysF [spE S ps.length 1, arrF S pre q post 3, mapE S, portE q]) + cnt x (keysF ((pre ++ post).map portE)) := fun x => by
      rw [← cnt_append, ← keysF_append]; exact cnt_of_perm (hfoc.filter _) x
    have hW1 : WI w (blocksOf (memS S ps)) ([spE S ps.length 1, arrF S pre q post 3, mapE S, portE q] ++ ((pre ++ post).map portE ++ rowH 3 (i64 0) (ints (pre.map fun q => numStates q.2)) k r)) w1 :=
      hW.alike (perm_of_cnt fun x => by have := hfk x; simp only [keysF_append, cnt_append] at this ⊢; omega)
    have hix : IxOk k ps.length 0 1 (ptrs pre).length := by simp [IxOk, ptrs, hlp]; omega
    have hop : ∀ nb, OpC Try.prog (opK b27t [1, 0, 0, 1, 1, 0, 0, 1, 0, 1, 1] 5) [rowV r k, .slice (some ⟨nb, 0, none⟩) 1 1]
        (⟨nb, .cells 3 [known [i64 (numStates q.2)]]⟩ :: ((pre ++ post).map portE ++ rowH 3 (i64 0) (ints (pre.map fun q => numStates q.2)) k r))
        (fun ξ => .slice (some ⟨(ξ 0).1, 0, none⟩) (k + 1) (capOf (k + 1) (ξ 0).2))
        (fun ξ => hole :: ((pre ++ post).map portE ++ rowH 3 (i64 0) (ints ((pre ++ [q]).map fun q => numStates q.2)) (k + 1) (some ((ξ 0).1, capOf (k + 1) (ξ 0).2)))) := fun nb => by
      refine OpC.drop ((op_append (P := Try.prog) (X := ⟨nb, .cells 3 [known [i64 (numStates q.2)]]⟩) (r := r) (k := k) (xs := ints (pre.map fun q => numStates q.2)) (z := i64 0) (m := 1) (cm := 1) (news := [i64 (numStates q.2)]) rfl (by kernel_rfl) int_info rfl hr (by rw [ints_len, List.length_map, hlp, Nat.mul_one]) (by omega) rfl rfl (one_of (by kernel_rfl)) (by simp only [maxLen]; omega) (by omega)).frame ((pre ++ post).map portE)) [⟨nb, .cells 3 [known [i64 (numStates q.2)]]⟩] ?_ fun ξ => ?_
      · exact perm_of_cnt fun x => by simp only [keysF_cons, keysF_append, cnt_append]; omega
      · exact perm_of_cnt fun x => by simp only [keysF_cons, keysF_nil, keys1_hole, keysF_append, cnt_append, cnt_nil, List.map_append, ints, List.map_cons, List.map_nil]; omega
    refine pk_run2 (H := [spE S ps.length 1, arrF S pre q post 3, mapE S, portE q]) (F := (pre ++ post).map portE ++ rowH 3 (i64 0) (ints (pre.map fun q => numStates q.2)) k r) fit safe 100 [.d true, .ix 1 0, .read [3] (i64 (numStates q.2)), .stop]
      [.run, .op [4] true (fun ξ => .slice (some ⟨(ξ 0).1, 0, none⟩) (k + 1) (capOf (k + 1) (ξ 0).2)) (fun _ => .no) (fun _ => [hole]) (fun _ => [])
        (fun ξ => (pre ++ post).map portE ++ rowH 3 (i64 0) (ints ((pre ++ [q]).map fun q => numStates q.2)) (k + 1) (some ((ξ 0).1, capOf (k + 1) (ξ 0).2)))]
      [true, true, true, true] [0, 1, 5, 11, 12, 13]
      (fun ν => ⟨[decide ((k : Int) < (ps.length : Int))], [true], [_, _, _], .stop (.goal T :: kRest b27t [0, 1, 0, 1, 1]) (frQ S 29 ps.length (.slice (some ⟨(ν 1 0).1, 0, none⟩) (k + 1) (capOf (k + 1) (ν 1 0).2)) (wr ((k : Int) + 1)))
        [spE S ps.length 1, arrF S pre q post 3, mapE S, portE q] ((pre ++ post).map portE ++ rowH 3 (i64 0) (ints ((pre ++ [q]).map fun q => numStates q.2)) (k + 1) (some ((ν 1 0).1, capOf (k + 1) (ν 1 0).2)))⟩)
      hA hW1 (fun ν => by kernel_rfl) (fun _ => by simpa using hk) (fun ν => ⟨hix, roleStates_read q, hop (ν 0 8).1⟩) (fun ν a w2 hA hW2 => ?_)
    rw [wr_nat (by omega)] at hA
    refine hT a w2 ⟨some ((ν 1 0).1, capOf (k + 1) (ν 1 0).2), capOf_row (by simp only [maxLen]; omega), hA, ?_⟩
    rw [hps]
    exact hW2.alike (perm_of_cnt fun x => by have := hfk x; simp only [keysF_append, cnt_append] at this ⊢; omega)
  · rintro a w1 ⟨r, hr, hA, hW⟩ T
    cases r with
    | none => simp only [rowOk] at hr; omega
    | some bc =>
      obtain ⟨b', c'⟩ := bc
      rw [List.take_length] at hW
      refine pk_run2 (H := []) fit safe 100 [.d false] [] [] []
        (fun ν => ⟨[decide ((ps.length : Int) < (ps.length : Int))], [false], [], .ret (.slice (some ⟨b', 0, none⟩) ps.length c') [] (memS S ps ++ rowH 3 (i64 0) (ints (ps.map fun q => numStates q.2)) ps.length (some (b', c')))⟩)
        hA hW (fun ν => by kernel_rfl) (fun _ => by simp) (fun _ => trivial) (fun ν w2 hW2 => ?_)
      obtain ⟨g1, g2, g3⟩ := new_of (hW2 [] rfl) hO memS_full
      exact ⟨b', c', rfl, g1, g2, g3⟩
end Go.Proofs.Ytbbpmhbeohpmnaa
