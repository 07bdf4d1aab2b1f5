/- What a bridge says. -/
import Derived.Test.YtbbpmhbeohpmnaaSpM
namespace Go.Proofs.Ytbbpmhbeohpmnaa
open Rx Go.RowKit

noncomputable abbrev b31 : Code := bodyOf Try.f31
def bpdu0 : Bpdu := ⟨0, 0, id0, 0, id0, 0, 0, 0, 0, 0⟩
def sayOf (S : Sp) (age : Int) : Bpdu := ⟨2, 0, S.best.root, S.best.cost, S.me, 0, age, 20, 2, 15⟩
def ageUp (n : Int) : Int := if 65535 < wr (n + 1) then 65535 else wr (n + 1)
def ageAt (ps : List (Nat × Port)) : Nat → Int
  | 0 => 0
  | k + 1 => match ps[k]? with
    | some q => if (q.2.role == 1) = true then ageUp q.2.age else ageAt ps k
    | none => ageAt ps k
def spokenOf (S : Sp) (ps : List (Nat × Port)) : Bpdu := sayOf S (ageAt ps ps.length)

abbrev frK (S : Sp) (b2 b3 n p2 p3 : Nat) (k : Int) : Fr := [(0, .val (pv S.b 0)), (2, .val (pv b2 p2)), (3, .val (pv b3 p3)), (24, .val (spV S n 1)), (25, .val (sv (i64 n))), (26, .val (sv (i64 k)))]

theorem spoken_read (S : Sp) (ps : List (Nat × Port)) (h64 : ps.length ≤ 64) : ReadCall Try.prog (memS S ps) 31 [ptr S.b] (spokenOf S ps).val := by
  intro w hO
  refine calls_pk (ys := [pv S.b 0]) Try.func31 (body := b31) rfl fun a hA => ?_
  refine pk_runF (w0 := w) (D := blocksOf (memS S ps)) fit safe 300 [] [true, true, true] [0, 2, 3, 24, 25, 26]
    (fun ν => ⟨[], [], [], .stop (kAt b31 [0, 1, 0, 1, 1]) (frK S (ν 0).1 (ν 16).1 ps.length 1 2 (0 : Nat)) [spE S ps.length 1, bpE (ν 0).1 bpdu0, bpE (ν 16).1 (sayOf S 0)]⟩)
    hA (H := [spE S ps.length 1]) (F := arrE S ps :: mapE S :: ps.map portE) (WI.start hO) (fun ν => by kernel_rfl) (fun _ => rfl) (fun _ => trivial) (fun ν a w1 hA hW => ?_)
  generalize (ν 0).1 = b2 at hA hW
  generalize (ν 16).1 = b3 at hA hW
  have hW0 : WI w (blocksOf (memS S ps)) (memS S ps ++ [bpE b2 bpdu0, bpE b3 (sayOf S 0)]) w1 := by
    refine hW.like ?_
    refine perm_of_cnt fun x => ?_
    simp only [memS, List.map_append, List.map_cons, List.map_nil, cnt_append, cnt_cons, cnt_nil]
    omega
  refine pk_range (b := child 0 (sub b31 [0, 1, 0, 1, 1])) rfl ps.length (fun k a w1 => Agrees 44 (frK S b2 b3 ps.length 4 5 (k : Nat)) a ∧
    WI w (blocksOf (memS S ps)) (memS S ps ++ [bpE b2 bpdu0, bpE b3 (sayOf S (ageAt ps k))]) w1) ?_ ?_ 0 a w1 (Nat.zero_le _) ⟨hA.like rfl, hW0⟩
  · rintro k a w1 hk ⟨hA, hW⟩ T hT
    have hs := split_at hk
    have hlp : (ps.take k).length = k := by rw [List.length_take]; omega
    have hst : ageAt ps (k + 1) = if (ps[k].2.role == 1) = true then ageUp ps[k].2.age else ageAt ps k := by simp [ageAt, hk]
    generalize ps[k] = q at hs hst
    generalize ps.take k = pre at hs hlp
    generalize hpost : ps.drop (k + 1) = post at hs
    generalize ageAt ps k = g at hW hst
    have hnn : pre.length + (post.length + 1) = ps.length := by have := congrArg List.length hs; simp at this; omega
    have hfx : ∀ X : List HE, ((memS S ps ++ X).map HE.key).Perm ((([spE S ps.length 1, arrF S pre q post 3, mapE S, portE q] ++ X) ++ (pre ++ post).map portE).map HE.key) := fun X => by
      have := focus_x S pre q post 1 3 ps.length hnn X
      rwa [← hs] at this
    have hix : IxOk k ps.length 0 1 (ptrs pre).length := by simp [IxOk, ptrs, hlp]; omega
    have hW1 := hW.like (hfx _)
    cases hr : (q.2.role == 1) with
    | true =>
      rw [hr, if_pos rfl] at hst
      refine pk_runF fit safe 300 [.d true, .ix 1 0, .d true] [true, true, true, true, true, true] [0, 2, 3, 24, 25, 26]
        (fun ν => ⟨[decide ((k : Int) < (ps.length : Int)), q.2.role == 1], [true, true], [IxOk k ps.length 0 1 (ptrs pre).length], .stop (.goal T :: kRest b31 [0, 1, 0, 1, 1]) (frK S b2 b3 ps.length 4 5 (wr ((k : Int) + 1)))
          [spE S ps.length 1, arrF S pre q post 3, mapE S, portE q, bpE b2 bpdu0, bpE b3 (sayOf S (ageUp q.2.age))]⟩)
        hA hW1 (fun ν => by kernel_rfl) (fun _ => by simp [hr]; omega) (fun _ => hix) (fun ν a w2 hA hW2 => ?_)
      rw [wr_nat (by omega)] at hA
      refine hT a w2 ⟨hA, ?_⟩
      rw [hst]
      exact hW2.like (hfx _).symm
    | false =>
      rw [hr, if_neg (by simp)] at hst
      refine pk_runF fit safe 300 [.d true, .ix 1 0, .d false] [true, true, true, true, true, true] [0, 2, 3, 24, 25, 26]
        (fun ν => ⟨[decide ((k : Int) < (ps.length : Int)), q.2.role == 1], [true, false], [IxOk k ps.length 0 1 (ptrs pre).length], .stop (.goal T :: kRest b31 [0, 1, 0, 1, 1]) (frK S b2 b3 ps.length 4 5 (wr ((k : Int) + 1)))
          [spE S ps.length 1, arrF S pre q post 3, mapE S, portE q, bpE b2 bpdu0, bpE b3 (sayOf S g)]⟩)
        hA hW1 (fun ν => by kernel_rfl) (fun _ => by simp [hr]; omega) (fun _ => hix) (fun ν a w2 hA hW2 => ?_)
      rw [wr_nat (by omega)] at hA
      refine hT a w2 ⟨hA, ?_⟩
      rw [hst]
      exact hW2.like (hfx _).symm
  · rintro a w1 ⟨hA, hW⟩ T
    refine pk_runF (H := [bpE b2 bpdu0, bpE b3 (sayOf S (ageAt ps ps.length))]) (F := memS S ps) fit safe 300 [.d false] [] []
      (fun ν => ⟨[decide ((ps.length : Int) < (ps.length : Int))], [false], [], .ret (spokenOf S ps).val []⟩)
      (hA.like (fr' := frK S b2 b3 ps.length 0 1 ps.length) rfl) (hW.append_comm) (fun ν => by kernel_rfl) (fun _ => by simp) (fun _ => trivial) (fun ν w2 hW2 => ?_)
    have hW3 : WI w (blocksOf (memS S ps)) (memS S ps) w2 := hW2 [] rfl
    refine ⟨rfl, below_of (H := memS S ps) hW3.toFar fun e he => ?_⟩
    have hf : e.o.full = true := by
      simp only [memS, List.mem_cons, List.mem_map] at he
      rcases he with rfl | rfl | rfl | ⟨q, _, rfl⟩ <;> rfl
    rw [hW3.owns.1 e he hf, hO.1 e he hf]
end Go.Proofs.Ytbbpmhbeohpmnaa
