/- A change is told, ports go on. -/
import Derived.Test.YtbbpmhbeohpmnaaSpG
namespace Go.Proofs.Ytbbpmhbeohpmnaa
open Rx Go.RowKit

noncomputable abbrev b20 : Code := bodyOf Try.f20

def chAt (S : Sp) (j : Nat) : Nat → List (Int × Nat) × Nat
  | 0 => (S.keys, S.clock)
  | k + 1 => if k = j then chAt S j k else (mPut (chAt S j k).1 (chAt S j k).2 ((k : Int) + 1), mClk (chAt S j k).1 (chAt S j k).2 ((k : Int) + 1))
def atS (S : Sp) (x : List (Int × Nat) × Nat) : Sp := { S with keys := x.1, clock := x.2 }
def changedS (S : Sp) (n j : Nat) (now : Int) : Sp := { atS S (chAt S j n) with change := wr (now + 4) }

abbrev frC (S : Sp) (pb n : Nat) (now k : Int) : Fr := [(0, .val (pv S.b 0)), (1, .val (sv (ptr pb))), (2, .val (sv (i64 now))), (11, .val (spV S n 1)), (12, .val (sv (i64 n))), (13, .val (sv (i64 k)))]
abbrev frC' (S : Sp) (pb n pos : Nat) (now k : Int) : Fr := [(0, .val (pv S.b 0)), (1, .val (pv pb pos)), (2, .val (sv (i64 now))), (11, .val (spV S n 1)), (12, .val (sv (i64 n))), (13, .val (sv (i64 k)))]

theorem changed_turn (S : Sp) (ps : List (Nat × Port)) (hn : ps.length ≤ 64) (j : Nat) (hj : j < ps.length) (now : Int) :
    Turns Try.prog (memS S ps) 20 [ptr S.b, ptr ps[j].1, i64 now] unit (memS (changedS S ps.length j now) ps) := by
  intro w hO
  refine calls_pk (ys := [pv S.b 0, sv (ptr ps[j].1), sv (i64 now)]) Try.func20 (body := b20) rfl fun a hA => ?_
  refine pk_runF (w0 := w) (D := blocksOf (memS S ps)) fit safe 100 [] [true] [0, 1, 2, 11, 12, 13]
    (fun _ => ⟨[], [], [], .stop (kAt b20 [0, 1, 0]) (frC S ps[j].1 ps.length now (0 : Nat)) [spE S ps.length 1]⟩)
    hA (H := [spE S ps.length 1]) (F := arrE S ps :: mapE S :: ps.map portE) (WI.start hO) (fun ν => by kernel_rfl) (fun _ => rfl) (fun _ => trivial) (fun ν a w1 hA hW => ?_)
  refine pk_range (b := child 0 (sub b20 [0, 1, 0])) rfl ps.length (fun k a w1 => Agrees 33 (frC S ps[j].1 ps.length now (k : Nat)) a ∧
    WI w (blocksOf (memS S ps)) (memS (atS S (chAt S j k)) ps) w1) ?_ ?_ 0 a w1 (Nat.zero_le _) ⟨hA, hW⟩
  · rintro k a w1 hk ⟨hA, hW⟩ T hT
    have hs := split_at hk
    have hlp : (ps.take k).length = k := by rw [List.length_take]; omega
    have hpsj : ps[j]? = some ps[j] := by simp [hj]
    have hpsk : ps[k]? = some ps[k] := by simp [hk]
    generalize hqj : ps[j] = qj at hA hpsj hT
    generalize hq : ps[k] = q at hs hpsk
    generalize hpre : ps.take k = pre at hs hlp
    generalize hpost : ps.drop (k + 1) = post at hs
    have hch : chAt S j (k + 1) = if k = j then chAt S j k else (mPut (chAt S j k).1 (chAt S j k).2 ((k : Int) + 1), mClk (chAt S j k).1 (chAt S j k).2 ((k : Int) + 1)) := rfl
    generalize chAt S j k = kc at hW hch
    have hfoc := mem_focus (atS S kc) pre q post 1 3
    rw [← hs] at hfoc
    have hix : IxOk k ps.length 0 1 (ptrs pre).length := by simp [IxOk, ptrs, hlp]; omega
    by_cases hkj : k = j
    · have hqq : q = qj := by subst hkj; rw [hpsj] at hpsk; exact (Option.some.inj hpsk).symm
      subst hqq
      have hW1 : WI w (blocksOf (memS S ps)) ([spE (atS S kc) ps.length 1, arrF (atS S kc) pre q post 3, mapE (atS S kc), portE q] ++ (pre ++ post).map portE) w1 := hW.like hfoc
      refine pk_runF fit safe 100 [.d true, .ix 1 0, .dc false] [true, true, true, true] [0, 1, 2, 11, 12, 13]
        (fun ν => ⟨[decide ((k : Int) < (ps.length : Int))], [true], [IxOk k ps.length 0 1 (ptrs pre).length], .stop (.goal T :: kRest b20 [0, 1, 0]) (frC' S q.1 ps.length 3 now (wr ((k : Int) + 1)))
          [spE (atS S kc) ps.length 1, arrF (atS S kc) pre q post 3, mapE (atS S kc), portE q]⟩)
        (hA.like (fr' := frC' S q.1 ps.length 3 now k) rfl) hW1 (fun ν => by kernel_rfl) (fun _ => by simp; omega) (fun _ => hix) (fun ν a w2 hA hW2 => ?_)
      rw [wr_nat (by omega)] at hA
      refine hT a w2 ⟨hA.like rfl, ?_⟩
      rw [hch, if_pos hkj]
      exact hW2.like hfoc.symm
    · have hmem : qj ∈ pre ++ post := by
        have h1 : qj ∈ ps.take k ++ ps.drop (k + 1) := by
          rcases Nat.lt_or_gt_of_ne (fun h => hkj h.symm : j ≠ k) with h | h
          · refine List.mem_append_left _ (List.mem_of_getElem? (i := j) ?_)
            rw [List.getElem?_take, if_pos h, hpsj]
          · refine List.mem_append_right _ (List.mem_of_getElem? (i := j - (k + 1)) ?_)
            rw [List.getElem?_drop, show k + 1 + (j - (k + 1)) = j by omega, hpsj]
        rwa [hpre, hpost] at h1
      obtain ⟨A, B, hAB⟩ := List.append_of_mem hmem
      have hfoc2 : ((memS (atS S kc) ps).map HE.key).Perm (([spE (atS S kc) ps.length 1, arrF (atS S kc) pre q post 3, mapE (atS S kc), portE q, portE qj] ++ (A ++ B).map portE).map HE.key) := by
        refine hfoc.trans ?_
        rw [hAB]
        refine perm_of_cnt fun x => ?_
        simp only [List.map_append, List.map_cons, List.map_nil, cnt_append, cnt_cons, cnt_nil]
        omega
      have hW1 : WI w (blocksOf (memS S ps)) ([spE (atS S kc) ps.length 1, arrF (atS S kc) pre q post 3, mapE (atS S kc), portE q, portE qj] ++ (A ++ B).map portE) w1 := hW.like hfoc2
      refine pk_runF fit safe 100 [.d true, .ix 1 0, .dc true, .stop] [true, true, true, true, true] [0, 1, 2, 11, 12, 13, 24, 26]
        (fun ν => ⟨[decide ((k : Int) < (ps.length : Int))], [true], [IxOk k ps.length 0 1 (ptrs pre).length], .stop (.ops [0, 1, 1, 0, 0, 1, 1, 0, 0, 1, 0] 6 :: (kIn b20 [0, 1, 0] [0, 1, 1, 0, 0, 1, 1, 0, 0, 1, 0] ++ .goal T :: kRest b20 [0, 1, 0]))
          (frC' S qj.1 ps.length 4 now k ++ [(24, .val (sv (.map (some S.mb)))), (26, .val (sv (i64 (wr ((k : Int) + 1)))))])
          [spE (atS S kc) ps.length 1, arrF (atS S kc) pre q post 3, mapE (atS S kc), portE q, portE qj]⟩)
        (hA.like (fr' := frC' S qj.1 ps.length 4 now k) rfl) hW1 (fun ν => by kernel_rfl) (fun _ => by simp; omega) (fun _ => hix) (fun ν a w2 hA hW2 => ?_)
      have hW3 : WI w (blocksOf (memS S ps)) (mapE (atS S kc) :: ([spE (atS S kc) ps.length 1, arrE (atS S kc) ps] ++ ps.map portE)) w2 := by
        refine hW2.like (hfoc2.symm.trans ?_)
        refine perm_of_cnt fun x => ?_
        simp only [memS, List.map_append, List.map_cons, List.map_nil, cnt_append, cnt_cons, cnt_nil]
        omega
      refine pk_put (match nth (opsOf (sub b20 [0, 1, 1, 0, 0, 1, 1, 0, 0, 1, 0])) 6 with | some o => o | none => default) (.tmp 24) (.tmp 26) 63 3 4 (tg := .no) (tg' := .no) (k := wr ((k : Int) + 1)) (by kernel_rfl) (by kernel_rfl) (by kernel_rfl) hA (by rfl) (by rfl)
        (by kernel_rfl) (by kernel_rfl) hW3 (fun w3 hW4 => ?_)
      refine pk_runF (H := []) fit safe 100 [] [] [0, 1, 2, 11, 12, 13]
        (fun ν => ⟨[], [], [], .stop (.goal T :: kRest b20 [0, 1, 0]) (frC' S qj.1 ps.length 4 now (wr ((k : Int) + 1))) []⟩)
        (hA.put (dst := none) (se := .junk) (v := undef) rfl trivial) hW4 (fun ν => by kernel_rfl) (fun _ => rfl) (fun _ => trivial) (fun ν a w4 hA hW5 => ?_)
      rw [wr_nat (by omega)] at hA
      rw [wr_int (by omega)] at hW5
      refine hT a w4 ⟨hA.like rfl, ?_⟩
      rw [hch, if_neg hkj]
      generalize hX : atS S (mPut kc.1 kc.2 ((k : Int) + 1), mClk kc.1 kc.2 ((k : Int) + 1)) = X
      have hW6 : WI w (blocksOf (memS S ps)) (mapE X :: ([spE X ps.length 1, arrE X ps] ++ ps.map portE)) w4 := by
        rw [← hX]
        exact hW5
      refine hW6.like ?_
      refine perm_of_cnt fun x => ?_
      simp only [memS, List.map_append, List.map_cons, List.map_nil, cnt_append, cnt_cons, cnt_nil]
      omega
  · rintro a w1 ⟨hA, hW⟩ T
    refine pk_runF (H := [spE (atS S (chAt S j ps.length)) ps.length 1]) (F := arrE S ps :: mapE (atS S (chAt S j ps.length)) :: ps.map portE) fit safe 100 [.d false] [true] []
      (fun ν => ⟨[decide ((ps.length : Int) < (ps.length : Int))], [false], [], .ret unit (facts [spE (changedS S ps.length j now) ps.length 1])⟩)
      hA hW (fun ν => by kernel_rfl) (fun _ => by simp) (fun _ => trivial) (fun ν w2 hW2 => ?_)
    exact ⟨rfl, hW2 _ rfl⟩

theorem changed_at (S : Sp) (pre : List (Nat × Port)) (q : Nat × Port) (post : List (Nat × Port)) (n : Nat) (hn : pre.length + (post.length + 1) = n) (h64 : n ≤ 64) (now : Int) :
    Turns Try.prog (memS S (pre ++ q :: post)) 20 [ptr S.b, ptr q.1, i64 now] unit (memS (changedS S n pre.length now) (pre ++ q :: post)) := by
  have hl : (pre ++ q :: post).length = n := by simp; omega
  have := changed_turn S (pre ++ q :: post) (by omega) pre.length (by omega) now
  have hq : (pre ++ q :: post)[pre.length]'(by omega) = q := by simp
  rw [hq, hl] at this
  exact this

theorem focus_n (S : Sp) (pre : List (Nat × Port)) (q : Nat × Port) (post : List (Nat × Port)) (p1 p2 n : Nat) (hn : pre.length + (post.length + 1) = n) :
    ((memS S (pre ++ q :: post)).map HE.key).Perm (([spE S n p1, arrF S pre q post p2, mapE S, portE q] ++ (pre ++ post).map portE).map HE.key) := by
  have hl : (pre ++ q :: post).length = n := by simp; omega
  have := mem_focus S pre q post p1 p2
  rwa [hl] at this

/-! ### forwards -/
noncomputable abbrev b25 : Code := bodyOf Try.f25
def fwdT (p : Port) : Bool := cond (p.state != 2) (!p.edge) false
def fwdS (S : Sp) (p : Port) (n j : Nat) (now : Int) : Sp := if fwdT p = true then changedS S n j now else S
def fwdP (p : Port) : Port := { p with state := 2 }

theorem forwards_at (S : Sp) (pre : List (Nat × Port)) (q : Nat × Port) (post : List (Nat × Port)) (n : Nat) (hn : pre.length + (post.length + 1) = n) (h64 : n ≤ 64) (now : Int) :
    Turns Try.prog (memS S (pre ++ q :: post)) 25 [ptr S.b, ptr q.1, i64 now] unit (memS (fwdS S q.2 n pre.length now) (pre ++ (q.1, fwdP q.2) :: post)) := by
  intro w hO
  refine calls_pk (ys := [pv S.b 0, pv q.1 3, sv (i64 now)]) Try.func25 (body := b25) rfl fun a hA => ?_
  have hW := (WI.start hO).like (focus_n S pre q post 1 3 n hn)
  cases ht : fwdT q.2 with
  | false =>
    refine pk_runF fit safe 100 [.d false] [true, true, true, true] []
      (fun ν => ⟨[fwdT q.2], [false], [], .ret unit (facts [spE S n 1, arrF S pre q post 3, mapE S, portE (q.1, fwdP q.2)])⟩)
      hA hW (fun ν => by kernel_rfl) (fun _ => by simp [ht]) (fun _ => trivial) (fun ν w2 hW2 => ⟨rfl, ?_⟩)
    rw [fwdS, if_neg (by simp [ht])]
    exact (hW2 _ rfl).like (focus_n S pre (q.1, fwdP q.2) post 1 3 n hn).symm
  | true =>
    refine pk_runF fit safe 100 [.d true, .stop] [true, true, true, true] [0, 1, 2, 18, 19, 20]
      (fun ν => ⟨[fwdT q.2], [true], [], .stop (.ops [0, 1, 0] 3 :: kRest b25 [0, 1, 0]) [(0, .val (pv S.b 0)), (1, .val (pv q.1 3)), (2, .val (sv (i64 now))), (18, .val (pv S.b 0)), (19, .val (pv q.1 3)), (20, .val (sv (i64 now)))] [spE S n 1, arrF S pre q post 3, mapE S, portE q]⟩)
      hA hW (fun ν => by kernel_rfl) (fun _ => by simp [ht]) (fun _ => trivial) (fun ν a w2 hA hW2 => ?_)
    have hW3 := hW2.like (focus_n S pre q post 1 3 n hn).symm
    refine pk_turn fit (changed_at S pre q post n hn h64 now) (F := []) (match nth (opsOf (sub b25 [0, 1, 0])) 3 with | some o => o | none => default) (.func 20) #[.tmp 18, .tmp 19, .tmp 20]
      (match (match nth (opsOf (sub b25 [0, 1, 0])) 3 with | some o => o | none => default).op with | .call c => c.argTypes | _ => #[]) #[] #[] .no [pv S.b 0, pv q.1 3, sv (i64 now)]
      (by kernel_rfl) (by kernel_rfl) (by kernel_rfl) hA (by rfl) (by rfl) Try.func20 (b' := b20) rfl (by rfl) (by rw [List.append_nil]; exact hW3) (fun w3 hW4 => ?_)
    rw [List.append_nil] at hW4
    refine pk_runF fit safe 100 [] [true, true, true, true] []
      (fun ν => ⟨[], [], [], .ret unit (facts [spE (changedS S n pre.length now) n 1, arrF S pre q post 3, mapE (changedS S n pre.length now), portE (q.1, fwdP q.2)])⟩)
      (hA.put (dst := some 21) (se := .junk) (v := unit) (by kernel_rfl) trivial) (hW4.like (focus_n _ pre q post 1 3 n hn)) (fun ν => by kernel_rfl) (fun _ => rfl) (fun _ => trivial) (fun ν w5 hW5 => ⟨rfl, ?_⟩)
    rw [fwdS, if_pos ht]
    exact (hW5 _ rfl).like (focus_n _ pre (q.1, fwdP q.2) post 1 3 n hn).symm
end Go.Proofs.Ytbbpmhbeohpmnaa
