/- A moment passes. -/
import Derived.Test.YtbbpmhbeohpmnaaSpP
namespace Go.Proofs.Ytbbpmhbeohpmnaa
open Rx Go.RowKit

noncomputable abbrev bTi : Code := bodyOf Try.f11

def hasP (now : Int) (q : Nat × Port) : Nat × Port := (q.1, { q.2 with h := { q.2.h with has := cond q.2.h.has (decide (now < q.2.til)) false } })
def mapAt (g : Nat × Port → Nat × Port) (ps : List (Nat × Port)) (k : Nat) : List (Nat × Port) := (ps.take k).map g ++ ps.drop k
def goAt (S : Sp) (ps : List (Nat × Port)) (now : Int) : Nat → Sp × List (Nat × Port)
  | 0 => (S, ps)
  | k + 1 => match (goAt S ps now k).2[k]? with
    | some q => ((goesOf (goAt S ps now k).1 ps.length k q.2 now).1, (goAt S ps now k).2.set k (q.1, (goesOf (goAt S ps now k).1 ps.length k q.2 now).2))
    | none => goAt S ps now k
structure Spk where
  (port : Int) (b : Bpdu)
def Spk.cells (s : Spk) : List Value := i64 s.port :: s.b.cells
def spkL (l : List Spk) : List Value := l.flatMap Spk.cells
def replP (q : Nat × Port) : Nat × Port := (q.1, { q.2 with reply := false })
def spkOf (S : Sp) (L : List (Nat × Port)) (k : Nat) (f : Int) : Spk := ⟨wr ((k : Int) + 1), { spokenOf S L with flags := f, port := wr ((k : Int) + 1) }⟩
def sayAt (S : Sp) (ps : List (Nat × Port)) (due : Bool) (now : Int) : Nat → List (Nat × Port) × List Spk
  | 0 => (ps, [])
  | k + 1 => match (sayAt S ps due now k).1[k]? with
    | some q => if flagsF S q.2 due now = 0 then sayAt S ps due now k
      else ((sayAt S ps due now k).1.set k (replP q), (sayAt S ps due now k).2 ++ [spkOf S (sayAt S ps due now k).1 k (flagsF S q.2 due now)])
    | none => sayAt S ps due now k
def dueB (S : Sp) (now : Int) : Bool := cond (S.last == -1) true (decide (wr (now - S.last) ≥ 2))
def lastS (S : Sp) (now : Int) : Sp := if dueB S now = true then { S with last := now } else S
structure Tk2 where
  (S : Sp) (ps : List (Nat × Port)) (out : List Spk)
def tickOf (S : Sp) (ps : List (Nat × Port)) (now : Int) : Tk2 :=
  let r := reckonOf S (ps.map (hasP now)) now
  let g := goAt r.1 r.2 now ps.length
  let s := sayAt (lastS g.1 now) g.2 (dueB g.1 now) now ps.length
  ⟨lastS g.1 now, s.1, s.2⟩

theorem spkL_len : ∀ l : List Spk, (spkL l).length = l.length * 23
  | [] => rfl
  | s :: r => by
    have := spkL_len r
    have h1 : s.cells.length = 23 := rfl
    simp only [spkL, List.flatMap_cons, List.length_append, List.length_cons] at this ⊢
    omega
def spk0 : Spk := ⟨0, bpdu0⟩
def Spk.val (s : Spk) : Value := .agg s.cells.toArray
theorem spk_info : (Try.prog.info? 72).map (fun i => (i.zero, i.size, i.bytes)) = some (some spk0.val, 23, 104) := by kernel_rfl

theorem goes_b (S : Sp) (n j : Nat) (p : Port) (now : Int) : (goesOf S n j p now).1.b = S.b ∧ (goesOf S n j p now).1.ab = S.ab ∧ (goesOf S n j p now).1.cap = S.cap := by
  unfold goesOf
  split
  · exact ⟨rfl, rfl, rfl⟩
  · split
    · exact ⟨rfl, rfl, rfl⟩
    · split
      · simp only [fwdS]; split <;> exact ⟨rfl, rfl, rfl⟩
      · exact ⟨rfl, rfl, rfl⟩
theorem goAt_ok (S : Sp) (ps : List (Nat × Port)) (now : Int) : ∀ k, (goAt S ps now k).1.b = S.b ∧ (goAt S ps now k).2.map (·.1) = ps.map (·.1)
  | 0 => ⟨rfl, rfl⟩
  | k + 1 => by
    have ih := goAt_ok S ps now k
    simp only [goAt]
    split
    · rename_i q hq
      refine ⟨by rw [(goes_b _ _ _ _ _).1]; exact ih.1, ?_⟩
      rw [List.map_set, ← ih.2]
      exact set_same (by simp [hq])
    · exact ih
theorem goAt_len (S : Sp) (ps : List (Nat × Port)) (now : Int) (k : Nat) : (goAt S ps now k).2.length = ps.length := by
  have := congrArg List.length (goAt_ok S ps now k).2
  simpa using this

abbrev frT1 (S : Sp) (n : Nat) (now k : Int) : Fr := [(0, .val (pv S.b 0)), (1, .val (sv (i64 now))), (21, .val (spV S n 1)), (22, .val (sv (i64 n))), (23, .val (sv (i64 k)))]
abbrev frT2 (S : Sp) (n : Nat) (now k : Int) : Fr := [(0, .val (pv S.b 0)), (1, .val (sv (i64 now))), (51, .val (spV S n 1)), (52, .val (sv (i64 n))), (53, .val (sv (i64 k)))]
abbrev frT3 (S : Sp) (n : Nat) (now k : Int) (due : Bool) (v : Value) : Fr := [(0, .val (pv S.b 0)), (1, .val (sv (i64 now))), (10, .val (sv (.bool due))), (11, .val (sv v)), (84, .val (spV S n 1)), (85, .val (sv (i64 n))), (86, .val (sv (i64 k)))]
theorem tick_c (S : Sp) (ps : List (Nat × Port)) (hf : Fair ps) (now : Int) (hm : momentB now = true) :
    TurnC Try.prog (memS S ps) 11 [ptr S.b, i64 now] (fun ξ => .tuple #[rowV (rowX (tickOf S ps now).out.length (ξ 0)) (tickOf S ps now).out.length, i64 0])
      (fun ξ => memS (tickOf S ps now).S (tickOf S ps now).ps ++ rowH 72 spk0.val (spkL (tickOf S ps now).out) (tickOf S ps now).out.length (rowX (tickOf S ps now).out.length (ξ 0))) := by
  intro w hO
  have h64 := fair_small hf.2.2
  refine calls_pk (ys := [pv S.b 0, sv (i64 now)]) Try.func11 (body := bTi) rfl fun a hA => ?_
  refine pk_run2 (w0 := w) (D := blocksOf (memS S ps)) fit safe 100 [.pure (.bool (momentB now)), .d false] [] [true] [0, 1, 21, 22, 23]
    (fun _ => ⟨[!momentB now], [false], [_], .stop (kAt bTi [0, 1, 0, 1, 1]) (frT1 S ps.length now (0 : Nat)) [spE S ps.length 1] (arrE S ps :: mapE S :: ps.map portE)⟩)
    hA (H := [spE S ps.length 1]) (WI.start hO) (fun ν => by kernel_rfl) (fun _ => by simp [hm]) (fun _ => moment_any now) (fun ν a w1 hA hW => ?_)
  -- what was heard grows old
  have hml : ∀ k, (mapAt (hasP now) ps k).length = ps.length := fun k => by simp only [mapAt, List.length_append, List.length_map, List.length_take, List.length_drop]; omega
  refine pk_range (b := child 0 (sub bTi [0, 1, 0, 1, 1])) rfl ps.length (fun k a w1 => Agrees 117 (frT1 S ps.length now (k : Nat)) a ∧ WI w (blocksOf (memS S ps)) (memS S (mapAt (hasP now) ps k)) w1) ?_ ?_ 0 a w1 (Nat.zero_le _) ⟨hA, hW⟩
  · rintro k a w1 hk ⟨hA, hW⟩ T hT
    have e1 : mapAt (hasP now) ps k = (ps.take k).map (hasP now) ++ ps[k] :: ps.drop (k + 1) := by rw [mapAt, ← List.drop_eq_getElem_cons hk]
    have e2 : mapAt (hasP now) ps (k + 1) = (ps.take k).map (hasP now) ++ hasP now ps[k] :: ps.drop (k + 1) := by rw [mapAt, List.take_succ_eq_append_getElem hk, List.map_append, List.append_assoc]; rfl
    have hlp : ((ps.take k).map (hasP now)).length = k := by rw [List.length_map, List.length_take]; omega
    have hln := hml k
    rw [e1] at hW hln
    rw [e2] at hT
    generalize ps[k] = q at hW hT hln
    generalize (ps.take k).map (hasP now) = pre at hW hT hln hlp
    generalize ps.drop (k + 1) = post at hW hT hln
    have hn : pre.length + (post.length + 1) = ps.length := by simpa [Nat.add_assoc] using hln
    have hix : IxOk k ps.length 0 1 (ptrs pre).length := by simp [IxOk, ptrs, hlp]; omega
    refine pk_run2 (F := (pre ++ post).map portE) fit safe 100 [.d true, .ix 1 0] [] [true, true, true, true] [0, 1, 21, 22, 23]
      (fun ν => ⟨[decide ((k : Int) < (ps.length : Int))], [true], [_], .stop (.goal T :: kRest bTi [0, 1, 0, 1, 1]) (frT1 S ps.length now (wr ((k : Int) + 1))) [spE S ps.length 1, arrF S pre q post 3, mapE S, portE (hasP now q)] ((pre ++ post).map portE)⟩)
      hA (hW.like (focus_n S pre q post 1 3 ps.length hn)) (fun ν => by kernel_rfl) (fun _ => by simp; omega) (fun _ => hix) (fun ν a w2 hA hW2 => ?_)
    rw [wr_nat (by omega)] at hA
    exact hT a w2 ⟨hA, hW2.like (focus_n S pre (hasP now q) post 1 3 ps.length hn).symm⟩
  rintro a w1 ⟨hA, hW⟩ T
  have hend : mapAt (hasP now) ps ps.length = ps.map (hasP now) := by simp [mapAt]
  rw [hend] at hW
  have hf1 : Fair (ps.map (hasP now)) := hf.of (by simp [hdr, hasP])
  have hl1 : (ps.map (hasP now)).length = ps.length := by simp
  generalize ht : tickOf S ps now = t
  simp only [tickOf] at ht
  have hrl := reckon_len S (ps.map (hasP now)) now
  rw [hl1] at hrl
  have hrb := rk_same (withBest S (selB S (ps.map (hasP now)))) (ps.map (hasP now)) (selR S (ps.map (hasP now))) now (ps.map (hasP now)).length
  have hrt := reckon_turn S (ps.map (hasP now)) hf1.1 hf1.2.1 hf1.2.2 now
  change (reckonOf S (ps.map (hasP now)) now).1.b = S.b ∧ _ at hrb
  generalize reckonOf S (ps.map (hasP now)) now = R at ht hrl hrt hrb
  obtain ⟨S1, L1⟩ := R
  simp only at ht hrl hrt hrb
  refine pk_run2 (H := []) (F := memS S (ps.map (hasP now))) fit safe 100 [.d false, .stop] [.run, .turn [] true (fun _ => unit) (fun _ => .no) (fun _ => []) (fun _ => []) (fun _ => memS S1 L1),
      .re [spE S1 ps.length 1] (arrE S1 L1 :: mapE S1 :: L1.map portE) id, .say 0 (ptr S1.b)] [true] [0, 1, 51, 52, 53]
    (fun ν => ⟨[decide ((ps.length : Int) < (ps.length : Int))], [false], [_, _, _], .stop (kAt bTi [0, 1, 0, 1, 1, 1, 1]) (frT2 S1 ps.length now (0 : Nat)) [spE S1 ps.length 1] (arrE S1 L1 :: mapE S1 :: L1.map portE)⟩)
    hA hW (fun ν => by kernel_rfl) (fun _ => by simp) (fun _ => ⟨hrt.c, (by rw [← hrl]; exact List.Perm.refl _ : ((memS S1 L1).map HE.key).Perm (([spE S1 ps.length 1] ++ (arrE S1 L1 :: mapE S1 :: L1.map portE)).map HE.key)), (by rw [hrb.1] : ptr S.b = ptr S1.b)⟩) (fun ν a w1 hA hW => ?_)
  -- designated ports go on
  refine pk_range (b := child 0 (sub bTi [0, 1, 0, 1, 1, 1, 1])) rfl ps.length (fun k a w1 => Agrees 117 (frT2 (goAt S1 L1 now k).1 ps.length now (k : Nat)) a ∧ WI w (blocksOf (memS S ps)) (memS (goAt S1 L1 now k).1 (goAt S1 L1 now k).2) w1) ?_ ?_ 0 a w1 (Nat.zero_le _) ⟨hA, by rw [← hrl] at hW; exact hW⟩
  · rintro k a w1 hk ⟨hA, hW⟩ T hT
    have hgl := goAt_len S1 L1 now k
    obtain ⟨pre, q, post, e1, e2, e3, e4, e5⟩ := split_ix (l := (goAt S1 L1 now k).2) (k := k) (by omega)
    have hst : goAt S1 L1 now (k + 1) = ((goesOf (goAt S1 L1 now k).1 ps.length k q.2 now).1, pre ++ (q.1, (goesOf (goAt S1 L1 now k).1 ps.length k q.2 now).2) :: post) := by
      rw [goAt, e3]; simp only [e5, hrl]
    rw [hgl, hrl] at e4
    rw [e1] at hW
    generalize (goAt S1 L1 now k).1 = Sk at hA hW hst
    have hgo := goes_at Sk pre q post ps.length e4 h64 now
    rw [e2] at hgo
    have hgb := goes_b Sk ps.length k q.2 now
    rw [hst] at hT
    generalize goesOf Sk ps.length k q.2 now = G at hT hgo hgb
    have hix : IxOk k ps.length 0 1 (ptrs pre).length := by simp [IxOk, ptrs, e2]; omega
    refine pk_run2 (F := (pre ++ post).map portE) fit safe 100 [.d true, .ix 1 0, .stop] [.run, .re [] (memS Sk (pre ++ q :: post)) id, callF (fun _ => unit) (fun _ => memS G.1 (pre ++ (q.1, G.2) :: post)),
        .say 0 (ptr G.1.b), .say 51 (.slice (some ⟨G.1.ab, 0, none⟩) ps.length G.1.cap)] [] [0, 1, 51, 52, 53]
      (fun ν => ⟨[decide ((k : Int) < (ps.length : Int))], [true], [_, _, _, _, _], .stop (.goal T :: kRest bTi [0, 1, 0, 1, 1, 1, 1]) (frT2 G.1 ps.length now (wr ((k : Int) + 1))) [] (memS G.1 (pre ++ (q.1, G.2) :: post))⟩)
      hA (hW.like (focus_n Sk pre q post 1 3 ps.length e4)) (fun ν => by kernel_rfl) (fun _ => by simp; omega) (fun _ => ⟨hix, (focus_n Sk pre q post 1 3 ps.length e4).symm, hgo.c, (by rw [hgb.1] : ptr Sk.b = ptr G.1.b), (by rw [hgb.2.1, hgb.2.2] : Value.slice (some ⟨Sk.ab, 0, none⟩) ps.length Sk.cap = .slice (some ⟨G.1.ab, 0, none⟩) ps.length G.1.cap)⟩) (fun ν a w2 hA hW2 => ?_)
    rw [wr_nat (by omega)] at hA
    exact hT a w2 ⟨hA, hW2⟩
  rintro a w1 ⟨hA, hW⟩ T
  have hgl := goAt_len S1 L1 now ps.length
  rw [hrl] at hgl
  generalize goAt S1 L1 now ps.length = G at hA hW hgl ht
  obtain ⟨S2, L2⟩ := G
  simp only at hA hW hgl ht
  -- what goes out
  have hlast : ∀ (S3 : Sp) (due : Bool) (a : Act) (w1 : World), S3 = lastS S2 now → due = dueB S2 now → Agrees 117 (frT3 S3 ps.length now (0 : Nat) due (rowV none 0)) a → WI w (blocksOf (memS S ps)) (memS S3 L2) w1 →
      PK Try.prog Try.f11 (fun e w' => ∃ ξ : Xi, e = .returned (.tuple #[rowV (rowX t.out.length (ξ 0)) t.out.length, i64 0]) ∧ WI w (blocksOf (memS S ps)) (memS t.S t.ps ++ rowH 72 spk0.val (spkL t.out) t.out.length (rowX t.out.length (ξ 0))) w') bTi (kAt bTi [0, 1, 0, 1, 1, 1, 1, 1, 1, 1, 1]) .normal a w1 := by
    intro S3 due a w1 hS3 hdue hA hW
    rw [← hS3, ← hdue] at ht
    have hsl : ∀ k, (sayAt S3 L2 due now k).1.length = ps.length := by
      intro k
      induction k with
      | zero => exact hgl
      | succ k ih =>
        simp only [sayAt]
        split
        · split
          · exact ih
          · simp only [List.length_set]; exact ih
        · exact ih
    have hol : ∀ k, (sayAt S3 L2 due now k).2.length ≤ k := by
      intro k
      induction k with
      | zero => exact Nat.le_refl _
      | succ k ih =>
        simp only [sayAt]
        split
        · split
          · omega
          · simp only [List.length_append, List.length_singleton]; omega
        · omega
    refine pk_range (b := child 0 (sub bTi [0, 1, 0, 1, 1, 1, 1, 1, 1, 1, 1])) rfl ps.length (fun k a w1 => ∃ x : Nat × Nat, Agrees 117 (frT3 S3 ps.length now (k : Nat) due (rowV (rowX (sayAt S3 L2 due now k).2.length x) (sayAt S3 L2 due now k).2.length)) a ∧
      WI w (blocksOf (memS S ps)) (memS S3 (sayAt S3 L2 due now k).1 ++ rowH 72 spk0.val (spkL (sayAt S3 L2 due now k).2) (sayAt S3 L2 due now k).2.length (rowX (sayAt S3 L2 due now k).2.length x)) w1) ?_ ?_ 0 a w1 (Nat.zero_le _) ⟨(0, 0), hA, by simpa [sayAt, rowX, rowH] using hW⟩
    · rintro k a w1 hk ⟨x, hA, hW⟩ T hT
      have hl1 := hsl k
      have hl2 := hol k
      have hst := sayAt.eq_2 S3 L2 due now k
      generalize sayAt S3 L2 due now k = st at hA hW hst hl1 hl2
      obtain ⟨L, out⟩ := st
      simp only at hA hW hl1 hl2
      obtain ⟨pre, q, post, e1, e2, e3, e4, e5⟩ := split_ix (l := L) (k := k) (by omega)
      simp only [e3, e5] at hst
      rw [hl1] at e4
      subst e1
      have hix : IxOk k ps.length 0 1 (ptrs pre).length := by simp [IxOk, ptrs, e2]; omega
      have hfk : ∀ y, cnt y (keysF (memS S3 (pre ++ q :: post))) = cnt y (keysF [spE S3 ps.length 1, arrF S3 pre q post 3, mapE S3, portE q]) + cnt y (keysF ((pre ++ post).map portE)) := fun y => by
        rw [← cnt_append, ← keysF_append]; exact cnt_of_perm ((focus_n S3 pre q post 1 3 ps.length e4).filter _) y
      generalize hF : (pre ++ post).map portE ++ rowH 72 spk0.val (spkL out) out.length (rowX out.length x) = F
      have hW1 : WI w (blocksOf (memS S ps)) ([spE S3 ps.length 1, arrF S3 pre q post 3, mapE S3, portE q] ++ F) w1 := by
        refine hW.alike (perm_of_cnt fun y => ?_)
        have := hfk y
        rw [← hF]
        simp only [keysF_append, cnt_append] at this ⊢
        omega
      have hsp : ReadCallC Try.prog (Beside [spE S3 ps.length 1, arrF S3 pre q post 3, mapE S3, portE q] F) [spE S3 ps.length 1, arrF S3 pre q post 3, mapE S3, portE q] 31 [ptr S3.b] (spokenOf S3 (pre ++ q :: post)).val := by
        refine ReadCall.beside ((spoken_read S3 (pre ++ q :: post) (by omega)).wide (rowH 72 spk0.val (spkL out) out.length (rowX out.length x)) (perm_of_cnt fun y => ?_))
        have := hfk y
        rw [← hF]
        simp only [keysF_append, cnt_append] at this ⊢
        omega
      cases hz : (flagsF S3 q.2 due now == 0) with
      | true =>
        have hz' : flagsF S3 q.2 due now = 0 := by simpa using hz
        rw [if_pos hz'] at hst
        rw [hst] at hT
        refine pk_run2 fit safe 300 [.d true, .ix 1 0, .readC [0, 1, 2, 3] (spokenOf S3 (pre ++ q :: post)).val, .read [0, 3] (i64 (flagsF S3 q.2 due now)), .d true] [] [true, true, true, true] [0, 1, 10, 11, 84, 85, 86]
          (fun ν => ⟨[decide ((k : Int) < (ps.length : Int)), flagsF S3 q.2 due now == 0], [true, true], [_, _, _], .stop (.goal T :: kRest bTi [0, 1, 0, 1, 1, 1, 1, 1, 1, 1, 1]) (frT3 S3 ps.length now (wr ((k : Int) + 1)) due (rowV (rowX out.length x) out.length)) [spE S3 ps.length 1, arrF S3 pre q post 3, mapE S3, portE q] F⟩)
          hA hW1 (fun ν => by kernel_rfl) (fun _ => by simp [hz]; omega) (fun _ => ⟨hix, hsp, flags_read S3 ps.length q due now⟩) (fun ν a w2 hA hW2 => ?_)
        rw [wr_nat (by omega)] at hA
        refine hT a w2 ⟨x, hA, hW2.alike (perm_of_cnt fun y => ?_)⟩
        have := hfk y
        rw [← hF]
        simp only [keysF_append, cnt_append] at this ⊢
        omega
      | false =>
        have hz' : flagsF S3 q.2 due now ≠ 0 := by simpa using hz
        rw [if_neg hz'] at hst
        rw [hst] at hT
        have hop : ∀ nb, OpC Try.prog (opK bTi [1, 1, 1, 1, 0, 0, 1, 1, 0, 0, 1, 0, 1, 1, 1, 1, 1, 1, 1, 1] 6) [rowV (rowX out.length x) out.length, .slice (some ⟨nb, 0, none⟩) 1 1]
            (⟨nb, .cells 72 [known (spkOf S3 (pre ++ q :: post) k (flagsF S3 q.2 due now)).cells]⟩ :: ((pre ++ post).map portE ++ rowH 72 spk0.val (spkL out) out.length (rowX out.length x)))
            (fun ξ => rowV (rowX (out.length + 1) (ξ 0)) (out.length + 1))
            (fun ξ => hole :: ((pre ++ post).map portE ++ rowH 72 spk0.val (spkL out ++ (spkOf S3 (pre ++ q :: post) k (flagsF S3 q.2 due now)).cells) (out.length + 1) (rowX (out.length + 1) (ξ 0)))) := fun nb =>
          op_push (P := Try.prog) _ rfl (by kernel_rfl) spk_info rfl (by simp only [HE.key, HO.obj, flat, known_vals]; rfl) rfl (by kernel_rfl) (spkL_len out) (by simp only [maxLen]; omega) (by omega)
        rw [hF] at hop
        refine pk_run2 fit safe 300 [.d true, .ix 1 0, .readC [0, 1, 2, 3] (spokenOf S3 (pre ++ q :: post)).val, .read [0, 3] (i64 (flagsF S3 q.2 due now)), .d false, .stop]
          [.run, .op [5] true (fun ξ => rowV (rowX (out.length + 1) (ξ 0)) (out.length + 1)) (fun _ => .no) (fun _ => [hole]) (fun _ => [])
            (fun ξ => (pre ++ post).map portE ++ rowH 72 spk0.val (spkL out ++ (spkOf S3 (pre ++ q :: post) k (flagsF S3 q.2 due now)).cells) (out.length + 1) (rowX (out.length + 1) (ξ 0)))] [true, true, true, true] [0, 1, 10, 11, 84, 85, 86]
          (fun ν => ⟨[decide ((k : Int) < (ps.length : Int)), flagsF S3 q.2 due now == 0], [true, false], [_, _, _, _], .stop (.goal T :: kRest bTi [0, 1, 0, 1, 1, 1, 1, 1, 1, 1, 1]) (frT3 S3 ps.length now (wr ((k : Int) + 1)) due (rowV (rowX (out.length + 1) (ν 1 0)) (out.length + 1))) [spE S3 ps.length 1, arrF S3 pre q post 3, mapE S3, portE (replP q)]
            ((pre ++ post).map portE ++ rowH 72 spk0.val (spkL out ++ (spkOf S3 (pre ++ q :: post) k (flagsF S3 q.2 due now)).cells) (out.length + 1) (rowX (out.length + 1) (ν 1 0)))⟩)
          hA hW1 (fun ν => by kernel_rfl) (fun _ => by simp [hz]; omega) (fun ν => ⟨hix, hsp, flags_read S3 ps.length q due now, hop (ν 0 33).1⟩) (fun ν a w2 hA hW2 => ?_)
        rw [wr_nat (by omega)] at hA
        have hsa : spkL (out ++ [(spkOf S3 (pre ++ q :: post) k (flagsF S3 q.2 due now))]) = spkL out ++ (spkOf S3 (pre ++ q :: post) k (flagsF S3 q.2 due now)).cells := by simp [spkL]
        have hla : (out ++ [(spkOf S3 (pre ++ q :: post) k (flagsF S3 q.2 due now))]).length = out.length + 1 := by simp
        refine hT a w2 ⟨ν 1 0, by rw [hla]; exact hA, ?_⟩
        rw [hla, hsa]
        refine hW2.alike (perm_of_cnt fun y => ?_)
        have := cntF (focus_n S3 pre (replP q) post 1 3 ps.length e4) y
        rw [show arrF S3 pre (replP q) post 3 = arrF S3 pre q post 3 from rfl] at this
        simp only [keysF_append, cnt_append] at this ⊢
        omega
    · rintro a w1 ⟨x, hA, hW⟩ T
      refine pk_run2 (H := []) (F := memS S3 (sayAt S3 L2 due now ps.length).1 ++ rowH 72 spk0.val (spkL (sayAt S3 L2 due now ps.length).2) (sayAt S3 L2 due now ps.length).2.length (rowX (sayAt S3 L2 due now ps.length).2.length x)) fit safe 300 [.d false] [] [] []
        (fun ν => ⟨[decide ((ps.length : Int) < (ps.length : Int))], [false], [], .ret (.tuple #[rowV (rowX (sayAt S3 L2 due now ps.length).2.length x) (sayAt S3 L2 due now ps.length).2.length, i64 0]) [] (memS S3 (sayAt S3 L2 due now ps.length).1 ++ rowH 72 spk0.val (spkL (sayAt S3 L2 due now ps.length).2) (sayAt S3 L2 due now ps.length).2.length (rowX (sayAt S3 L2 due now ps.length).2.length x))⟩)
        hA hW (fun ν => by kernel_rfl) (fun _ => by simp) (fun _ => trivial) (fun ν w2 hW2 => ⟨fun _ => x, ?_, ?_⟩)
      · rw [← ht]
      · rw [← ht]; exact hW2 [] rfl
  cases hd : dueB S2 now with
  | true =>
    refine pk_run2 (H := [spE S2 ps.length 1]) (F := arrE S2 L2 :: mapE S2 :: L2.map portE) fit safe 200 [.d false, .d true] [] [true] [0, 1, 10, 11, 84, 85, 86]
      (fun ν => ⟨[decide ((ps.length : Int) < (ps.length : Int)), dueB S2 now], [false, true], [], .stop (kAt bTi [0, 1, 0, 1, 1, 1, 1, 1, 1, 1, 1]) (frT3 S2 ps.length now (0 : Nat) (dueB S2 now) (rowV none 0)) [spE { S2 with last := now } ps.length 1] (arrE S2 L2 :: mapE S2 :: L2.map portE)⟩)
      hA (by rw [← hgl]; exact hW) (fun ν => by kernel_rfl) (fun _ => by simp [hd]) (fun _ => trivial) (fun ν a w1 hA hW => ?_)
    exact hlast { S2 with last := now } _ a w1 (by rw [lastS, if_pos hd]) rfl hA (by rw [← hgl] at hW; exact hW)
  | false =>
    refine pk_run2 (H := [spE S2 ps.length 1]) (F := arrE S2 L2 :: mapE S2 :: L2.map portE) fit safe 200 [.d false, .d false] [] [true] [0, 1, 10, 11, 84, 85, 86]
      (fun ν => ⟨[decide ((ps.length : Int) < (ps.length : Int)), dueB S2 now], [false, false], [], .stop (kAt bTi [0, 1, 0, 1, 1, 1, 1, 1, 1, 1, 1]) (frT3 S2 ps.length now (0 : Nat) (dueB S2 now) (rowV none 0)) [spE S2 ps.length 1] (arrE S2 L2 :: mapE S2 :: L2.map portE)⟩)
      hA (by rw [← hgl]; exact hW) (fun ν => by kernel_rfl) (fun _ => by simp [hd]) (fun _ => trivial) (fun ν a w1 hA hW => ?_)
    exact hlast S2 _ a w1 (by rw [lastS, if_neg (by simp [hd])]) rfl hA (by rw [← hgl] at hW; exact hW)
end Go.Proofs.Ytbbpmhbeohpmnaa
