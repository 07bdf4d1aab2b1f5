/- A port goes on. -/
import Derived.Test.YtbbpmhbeohpmnaaSpL
namespace Go.Proofs.Ytbbpmhbeohpmnaa
open Rx Go.RowKit

noncomputable abbrev b30 : Code := bodyOf Try.f30
def goesT (p : Port) (now : Int) : Bool := cond (p.role != 2) true (decide (now < p.on))
def goesOf (S : Sp) (n j : Nat) (p : Port) (now : Int) : Sp × Port :=
  if goesT p now = true then (S, p) else if (p.state == 0) = true then (S, { p with state := 1, on := wr (now + 15) })
  else if (p.state == 1) = true then (fwdS S p n j now, fwdP p) else (S, p)

theorem goes_at (S : Sp) (pre : List (Nat × Port)) (q : Nat × Port) (post : List (Nat × Port)) (n : Nat) (hn : pre.length + (post.length + 1) = n) (h64 : n ≤ 64) (now : Int) :
    Turns Try.prog (memS S (pre ++ q :: post)) 30 [ptr S.b, ptr q.1, i64 now] unit (memS (goesOf S n pre.length q.2 now).1 (pre ++ (q.1, (goesOf S n pre.length q.2 now).2) :: post)) := by
  intro w hO
  refine calls_pk (ys := [pv S.b 0, pv q.1 3, sv (i64 now)]) Try.func30 (body := b30) rfl fun a hA => ?_
  have hW := (WI.start hO).like (focus_n S pre q post 1 3 n hn)
  cases h1 : goesT q.2 now with
  | true =>
    rw [goesOf, if_pos h1]
    refine pk_runF fit safe 100 [.d true] [true, true, true, true] []
      (fun ν => ⟨[goesT q.2 now], [true], [], .ret unit (facts [spE S n 1, arrF S pre q post 3, mapE S, portE q])⟩)
      hA hW (fun ν => by kernel_rfl) (fun _ => by simp [h1]) (fun _ => trivial) (fun ν w2 hW2 => ⟨rfl, (hW2 _ rfl).like (focus_n S pre q post 1 3 n hn).symm⟩)
  | false =>
    rw [goesOf, if_neg (by simp [h1])]
    cases h2 : (q.2.state == 0) with
    | true =>
      rw [if_pos rfl]
      refine pk_runF fit safe 100 [.d false, .d true] [true, true, true, true] []
        (fun ν => ⟨[goesT q.2 now, q.2.state == 0], [false, true], [], .ret unit (facts [spE S n 1, arrF S pre q post 3, mapE S, portE (q.1, { q.2 with state := 1, on := wr (now + 15) })])⟩)
        hA hW (fun ν => by kernel_rfl) (fun _ => by simp [h1, h2]) (fun _ => trivial) (fun ν w2 hW2 => ⟨rfl, (hW2 _ rfl).like (focus_n S pre (q.1, { q.2 with state := 1, on := wr (now + 15) }) post 1 3 n hn).symm⟩)
    | false =>
      rw [if_neg (by simp)]
      cases h3 : (q.2.state == 1) with
      | false =>
        rw [if_neg (by simp)]
        refine pk_runF fit safe 100 [.d false, .d false, .d false] [true, true, true, true] []
          (fun ν => ⟨[goesT q.2 now, q.2.state == 0, q.2.state == 1], [false, false, false], [], .ret unit (facts [spE S n 1, arrF S pre q post 3, mapE S, portE q])⟩)
          hA hW (fun ν => by kernel_rfl) (fun _ => by simp [h1, h2, h3]) (fun _ => trivial) (fun ν w2 hW2 => ⟨rfl, (hW2 _ rfl).like (focus_n S pre q post 1 3 n hn).symm⟩)
      | true =>
        rw [if_pos rfl]
        refine pk_runF fit safe 100 [.d false, .d false, .d true, .stop] [true, true, true, true] [40, 41, 42]
          (fun ν => ⟨[goesT q.2 now, q.2.state == 0, q.2.state == 1], [false, false, true], [], .stop (.ops [0, 1, 1, 1, 1, 1, 0] 3 :: kRest b30 [0, 1, 1, 1, 1, 1, 0]) [(40, .val (pv S.b 0)), (41, .val (pv q.1 3)), (42, .val (sv (i64 now)))] [spE S n 1, arrF S pre q post 3, mapE S, portE q]⟩)
          hA hW (fun ν => by kernel_rfl) (fun _ => by simp [h1, h2, h3]) (fun _ => trivial) (fun ν a w2 hA hW2 => ?_)
        have hW3 := hW2.like (focus_n S pre q post 1 3 n hn).symm
        refine pk_turn fit (forwards_at S pre q post n hn h64 now) (F := []) (match nth (opsOf (sub b30 [0, 1, 1, 1, 1, 1, 0])) 3 with | some o => o | none => default) (.func 25) #[.tmp 40, .tmp 41, .tmp 42]
          (match (match nth (opsOf (sub b30 [0, 1, 1, 1, 1, 1, 0])) 3 with | some o => o | none => default).op with | .call c => c.argTypes | _ => #[]) #[] #[] .no [pv S.b 0, pv q.1 3, sv (i64 now)]
          (by kernel_rfl) (by kernel_rfl) (by kernel_rfl) hA (by rfl) (by rfl) Try.func25 (b' := b25) rfl (by rfl) (by rw [List.append_nil]; exact hW3) (fun w3 hW4 => ?_)
        rw [List.append_nil] at hW4
        refine pk_runF (H := []) fit safe 100 [] [] []
          (fun ν => ⟨[], [], [], .ret unit []⟩)
          (hA.put (dst := some 43) (se := .junk) (v := unit) (by kernel_rfl) trivial) hW4 (fun ν => by kernel_rfl) (fun _ => rfl) (fun _ => trivial) (fun ν w5 hW5 => ⟨rfl, hW5 [] rfl⟩)
end Go.Proofs.Ytbbpmhbeohpmnaa
