/- A port was proposed to. -/
import Derived.Test.YtbbpmhbeohpmnaaSpI
namespace Go.Proofs.Ytbbpmhbeohpmnaa
open Rx Go.RowKit

noncomputable abbrev b22 : Code := bodyOf Try.f24

def holdP (p : Port) (now : Int) : Port := { p with state := 0, on := wr (now + 15) }
def propT (other : Bool) (p q : Port) : Bool := cond (cond (cond (cond (p.role == 1) other false) (q.role == 2) false) (!q.edge) false) (!q.agreed) false
def propQ (p : Port) (j : Nat) (now : Int) (k : Nat) (q : Nat × Port) : Nat × Port := if k = j then q else if propT true p q.2 = true then (q.1, holdP q.2 now) else q
def replyB (p : Port) : Bool := cond (p.role != 2) (p.role != 0) false

def allQ (p : Port) (j : Nat) (now : Int) (ps : List (Nat × Port)) : List (Nat × Port) := ps.mapIdx fun k q => propQ p j now k q

theorem allQ_len (p : Port) (j : Nat) (now : Int) (ps : List (Nat × Port)) : (allQ p j now ps).length = ps.length := by simp [allQ]
theorem allQ_get (p : Port) (j : Nat) (now : Int) (ps : List (Nat × Port)) (k : Nat) : (allQ p j now ps)[k]? = (ps[k]?).map (propQ p j now k) := by simp [allQ]

theorem focus2_n (S : Sp) (pre : List (Nat × Port)) (q : Nat × Port) (post : List (Nat × Port)) (A B : List (Nat × Port)) (q2 : Nat × Port) (p1 p2 n : Nat) (hn : pre.length + (post.length + 1) = n) (hAB : pre ++ post = A ++ q2 :: B) :
    ((memS S (pre ++ q :: post)).map HE.key).Perm (([spE S n p1, arrF S pre q post p2, mapE S, portE q, portE q2] ++ (A ++ B).map portE).map HE.key) := by
  refine (focus_n S pre q post p1 p2 n hn).trans ?_
  rw [hAB]
  refine perm_of_cnt fun x => ?_
  simp only [List.map_append, List.map_cons, List.map_nil, cnt_append, cnt_cons, cnt_nil]
  omega

abbrev frP (S : Sp) (pb n pos : Nat) (now k : Int) : Fr := [(0, .val (pv S.b 0)), (1, .val (pv pb pos)), (2, .val (sv (i64 now))), (11, .val (spV S n 1)), (12, .val (sv (i64 n))), (13, .val (sv (i64 k)))]

theorem proposed_turn (S : Sp) (ps : List (Nat × Port)) (hn : ps.length ≤ 64) (j : Nat) (hj : j < ps.length) (now : Int) :
    Turns Try.prog (memS S ps) 24 [ptr S.b, ptr ps[j].1, i64 now] unit
      (memS S ((allQ ps[j].2 j now ps).set j (ps[j].1, { ps[j].2 with reply := replyB ps[j].2 }))) := by
  intro w hO
  refine calls_pk (ys := [pv S.b 0, sv (ptr ps[j].1), sv (i64 now)]) Try.func24 (body := b22) rfl fun a hA => ?_
  refine pk_runF (w0 := w) (D := blocksOf (memS S ps)) fit safe 100 [] [true] [0, 1, 2, 11, 12, 13]
    (fun _ => ⟨[], [], [], .stop (kAt b22 [0, 1, 0]) (frP S ps[j].1 ps.length 9 now (0 : Nat)) [spE S ps.length 1]⟩)
    (hA.like (fr' := enum 0 [pv S.b 0, pv ps[j].1 9, sv (i64 now)]) rfl) (H := [spE S ps.length 1]) (F := arrE S ps :: mapE S :: ps.map portE) (WI.start hO) (fun ν => by kernel_rfl) (fun _ => rfl) (fun _ => trivial) (fun ν a w1 hA hW => ?_)
  have hpsj : ps[j]? = some ps[j] := by simp [hj]
  generalize ps[j] = qj at hA hpsj ⊢
  refine pk_range (b := child 0 (sub b22 [0, 1, 0])) rfl ps.length (fun k a w1 => Agrees 67 (frP S qj.1 ps.length 9 now (k : Nat)) a ∧
    WI w (blocksOf (memS S ps)) (memS S ((allQ qj.2 j now ps).take k ++ ps.drop k)) w1) ?_ ?_ 0 a w1 (Nat.zero_le _) ⟨hA, hW⟩
  · rintro k a w1 hk ⟨hA, hW⟩ T hT
    have hd := List.drop_eq_getElem_cons hk
    have hlp : ((allQ qj.2 j now ps).take k).length = k := by rw [List.length_take, allQ_len]; omega
    have hpsk : ps[k]? = some ps[k] := by simp [hk]
    have htk : (allQ qj.2 j now ps).take (k + 1) = (allQ qj.2 j now ps).take k ++ [propQ qj.2 j now k ps[k]] := by
      have hk' : k < (allQ qj.2 j now ps).length := by rw [allQ_len]; exact hk
      rw [List.take_succ_eq_append_getElem hk']
      simp [allQ]
    have hmem : k ≠ j → qj ∈ (allQ qj.2 j now ps).take k ++ ps.drop (k + 1) := by
      intro hkj
      rcases Nat.lt_or_gt_of_ne (fun h => hkj h.symm : j ≠ k) with h | h
      · refine List.mem_append_left _ (List.mem_of_getElem? (i := j) ?_)
        rw [List.getElem?_take, if_pos h, allQ_get, hpsj]
        simp [propQ]
      · refine List.mem_append_right _ (List.mem_of_getElem? (i := j - (k + 1)) ?_)
        rw [List.getElem?_drop, show k + 1 + (j - (k + 1)) = j by omega, hpsj]
    have hpl : (ps.drop (k + 1)).length + 1 + k = ps.length := by rw [List.length_drop]; omega
    rw [hd] at hW
    generalize hpre : (allQ qj.2 j now ps).take k = pre at hW hlp htk hmem
    generalize hpost : ps.drop (k + 1) = post at hW hmem hpl hT
    generalize ps[k] = q at hW hpsk htk
    have hnn : pre.length + (post.length + 1) = ps.length := by omega
    have hix : IxOk k ps.length 0 1 (ptrs pre).length := by simp [IxOk, ptrs, hlp]; omega
    have hend : ∀ (pos : Nat) (a : Act) (w' : World), Agrees 67 (frP S qj.1 ps.length pos now (wr ((k : Int) + 1))) a →
        WI w (blocksOf (memS S ps)) (memS S (pre ++ propQ qj.2 j now k q :: post)) w' → T a w' := by
      intro pos a w' hA hW'
      rw [wr_nat (by omega)] at hA
      refine hT a w' ⟨hA.like rfl, ?_⟩
      rw [htk]
      simpa using hW'
    by_cases hkj : k = j
    · have hqq : q = qj := by subst hkj; rw [hpsj] at hpsk; exact (Option.some.inj hpsk).symm
      subst hqq
      have hW1 := hW.like (focus_n S pre q post 1 3 ps.length hnn)
      have hf : propT false q.2 q.2 = false := by
        unfold propT
        cases q.2.role == 1 <;> rfl
      refine pk_runF fit safe 100 [.d true, .ix 1 0, .d false] [true, true, true, true] [0, 1, 2, 11, 12, 13]
        (fun ν => ⟨[decide ((k : Int) < (ps.length : Int)), propT false q.2 q.2], [true, false], [IxOk k ps.length 0 1 (ptrs pre).length], .stop (.goal T :: kRest b22 [0, 1, 0]) (frP S q.1 ps.length 3 now (wr ((k : Int) + 1)))
          [spE S ps.length 1, arrF S pre q post 3, mapE S, portE q]⟩)
        (hA.like (fr' := frP S q.1 ps.length 3 now k) rfl) hW1 (fun ν => by kernel_rfl) (fun _ => by simp [hf]; omega) (fun _ => hix) (fun ν a w2 hA hW2 => ?_)
      refine hend 3 a w2 hA ?_
      rw [propQ, if_pos hkj]
      exact hW2.like (focus_n S pre q post 1 3 ps.length hnn).symm
    · obtain ⟨A, B, hAB⟩ := List.append_of_mem (hmem hkj)
      have hW1 := hW.like (focus2_n S pre q post A B qj 1 3 ps.length hnn hAB)
      cases ht : propT true qj.2 q.2 with
      | false =>
        refine pk_runF fit safe 100 [.d true, .ix 1 0, .d false] [true, true, true, true, true] [0, 1, 2, 11, 12, 13]
          (fun ν => ⟨[decide ((k : Int) < (ps.length : Int)), propT true qj.2 q.2], [true, false], [IxOk k ps.length 0 1 (ptrs pre).length], .stop (.goal T :: kRest b22 [0, 1, 0]) (frP S qj.1 ps.length 4 now (wr ((k : Int) + 1)))
            [spE S ps.length 1, arrF S pre q post 3, mapE S, portE q, portE qj]⟩)
          (hA.like (fr' := frP S qj.1 ps.length 4 now k) rfl) hW1 (fun ν => by kernel_rfl) (fun _ => by simp [ht]; omega) (fun _ => hix) (fun ν a w2 hA hW2 => ?_)
        refine hend 4 a w2 hA ?_
        rw [propQ, if_neg hkj, if_neg (by simp [ht])]
        exact hW2.like (focus2_n S pre q post A B qj 1 3 ps.length hnn hAB).symm
      | true =>
        refine pk_runF fit safe 100 [.d true, .ix 1 0, .d true, .inl] [true, true, true, true, true] [0, 1, 2, 11, 12, 13]
          (fun ν => ⟨[decide ((k : Int) < (ps.length : Int)), propT true qj.2 q.2], [true, true], [IxOk k ps.length 0 1 (ptrs pre).length], .stop (.goal T :: kRest b22 [0, 1, 0]) (frP S qj.1 ps.length 4 now (wr ((k : Int) + 1)))
            [spE S ps.length 1, arrF S pre q post 3, mapE S, portE (q.1, holdP q.2 now), portE qj]⟩)
          (hA.like (fr' := frP S qj.1 ps.length 4 now k) rfl) hW1 (fun ν => by kernel_rfl) (fun _ => by simp [ht]; omega) (fun _ => hix) (fun ν a w2 hA hW2 => ?_)
        refine hend 4 a w2 hA ?_
        rw [propQ, if_neg hkj, if_pos ht]
        exact hW2.like (focus2_n S pre (q.1, holdP q.2 now) post A B qj 1 3 ps.length hnn hAB).symm
  · rintro a w1 ⟨hA, hW⟩ T
    have hlq := allQ_len qj.2 j now ps
    have htk : (allQ qj.2 j now ps).take ps.length ++ ps.drop ps.length = allQ qj.2 j now ps := by rw [← hlq, List.take_length, hlq, List.drop_length, List.append_nil]
    rw [htk] at hW
    have hjq : j < (allQ qj.2 j now ps).length := by omega
    have hgj : (allQ qj.2 j now ps)[j] = qj := by
      have := allQ_get qj.2 j now ps j
      rw [hpsj, List.getElem?_eq_getElem hjq] at this
      simpa [propQ] using this
    have hsp := split_at hjq
    rw [hgj] at hsp
    have hset : (allQ qj.2 j now ps).set j (qj.1, { qj.2 with reply := replyB qj.2 }) = (allQ qj.2 j now ps).take j ++ (qj.1, { qj.2 with reply := replyB qj.2 }) :: (allQ qj.2 j now ps).drop (j + 1) := by
      rw [List.set_eq_take_append_cons_drop, if_pos hjq]
    have hnn : ((allQ qj.2 j now ps).take j).length + (((allQ qj.2 j now ps).drop (j + 1)).length + 1) = ps.length := by
      rw [List.length_take, List.length_drop, hlq]; omega
    rw [hset]
    rw [hsp] at hW
    generalize (allQ qj.2 j now ps).take j = pre at hW hnn ⊢
    generalize (allQ qj.2 j now ps).drop (j + 1) = post at hW hnn ⊢
    refine pk_runF fit safe 100 [.d false] [true, true, true, true] []
      (fun ν => ⟨[decide ((ps.length : Int) < (ps.length : Int))], [false], [], .ret unit (facts [spE S ps.length 1, arrF S pre qj post 3, mapE S, portE (qj.1, { qj.2 with reply := replyB qj.2 })])⟩)
      (hA.like (fr' := frP S qj.1 ps.length 3 now ps.length) rfl) (hW.like (focus_n S pre qj post 1 3 ps.length hnn)) (fun ν => by kernel_rfl) (fun _ => by simp) (fun _ => trivial) (fun ν w2 hW2 => ⟨rfl, ?_⟩)
    exact (hW2 _ rfl).like (focus_n S pre (qj.1, { qj.2 with reply := replyB qj.2 }) post 1 3 ps.length hnn).symm
end Go.Proofs.Ytbbpmhbeohpmnaa
