/- The flags of what a port says. -/
import Derived.Test.YtbbpmhbeohpmnaaSpN
namespace Go.Proofs.Ytbbpmhbeohpmnaa
open Rx Go.RowKit

noncomputable abbrev b32 : Code := bodyOf Try.f32
def orB (a b : Int) : Int := IntKind.i64.wrap ((BitVec.ofInt 64 a ||| BitVec.ofInt 64 b).toNat)
def putB (is : Bool) (bits f : Int) : Int := if is = true then orB f bits else f

theorem put_turn (fb : Nat) (is : Bool) (bits f : Int) : Turns Try.prog [flE fb f] 42 [.bool is, i64 bits, ptr fb] unit [flE fb (putB is bits f)] := by
  cases is with
  | true =>
    exact turn_run fit safe Try.func42 rfl [sv (.bool true), sv (i64 bits), pv fb 0] [flE fb f] [flE fb (orB f bits)] 100 [.dc true] [true] [] [] (fun _ => []) (fun ν => by kernel_rfl) rfl (fun _ => trivial)
  | false =>
    exact turn_run fit safe Try.func42 rfl [sv (.bool false), sv (i64 bits), pv fb 0] [flE fb f] [flE fb f] 100 [.dc false] [true] [] [] (fun _ => []) (fun ν => by kernel_rfl) rfl (fun _ => trivial)

def says (S : Sp) (p : Port) (due : Bool) (now : Int) : Bool := cond p.reply true (cond (cond (p.role == 1) due false) (decide (now < S.change)) false)
def flag1 (S : Sp) (p : Port) (due : Bool) (now : Int) : Int :=
  if (p.role == 2) = true then putB (cond due (p.state != 2) false) 2 (putB due 12 0)
  else putB p.reply 64 (putB (cond (says S p due now) (!(p.role == 1)) false) 4 (putB (cond (says S p due now) (p.role == 1) false) 8 0))
def flagsF (S : Sp) (p : Port) (due : Bool) (now : Int) : Int :=
  if cond (flag1 S p due now == 0) true (!p.h.up) = true then 0
  else putB (decide (now < S.change)) 1 (putB (p.state == 2) 32 (putB (p.state != 0) 16 (flag1 S p due now)))

theorem _root_.Go.Proofs.Ytbbpmhbeohpmnaa.Rx.WI.nilr {w0 w : World} {D : List Nat} {H : List HE} (h : WI w0 D H w) : WI w0 D (H ++ []) w := by rw [List.append_nil]; exact h
def putT (fb : Nat) : TV := ⟨.func (.func 42) #[] #[ptr fb], .many [.loc 2 0 0]⟩
abbrev frO (S : Sp) (pb fb : Nat) (due : Bool) (now : Int) : Fr := [(0, .val (pv S.b 0)), (1, .val (pv pb 1)), (2, .val (sv (.bool due))), (3, .val (sv (i64 now))), (9, .val (pv fb 2)), (10, .val (putT fb))]

theorem flags_read (S : Sp) (n : Nat) (q : Nat × Port) (due : Bool) (now : Int) : ReadCall Try.prog [spE S n 1, portE q] 32 [ptr S.b, ptr q.1, .bool due, i64 now] (i64 (flagsF S q.2 due now)) := by
  intro w hO
  have hback : ∀ w', WI w (blocksOf [spE S n 1, portE q]) [spE S n 1, portE q] w' → RowKit.Below w.heap.size w w' := fun w' h => below_of (H := [spE S n 1, portE q]) h.toFar fun e he => by
    have hf : e.o.full = true := by
      simp only [List.mem_cons, List.not_mem_nil, or_false] at he
      rcases he with rfl | rfl <;> rfl
    rw [h.owns.1 e he hf, hO.1 e he hf]
  refine calls_pk (ys := [pv S.b 0, pv q.1 1, sv (.bool due), sv (i64 now)]) Try.func32 (body := b32) rfl fun a hA => ?_
  -- behind the first part
  have hC : ∀ (fb : Nat) (a : Act) (w' : World), Agrees 107 (frO S q.1 fb due now) a → WI w (blocksOf [spE S n 1, portE q]) [spE S n 1, portE q, flE fb (flag1 S q.2 due now)] w' →
      PK Try.prog Try.f32 (fun e w' => e = Ending.returned (i64 (flagsF S q.2 due now)) ∧ RowKit.Below w.heap.size w w') b32 (kAt b32 [0, 0, 1, 1, 1, 1, 1]) .normal a w' := by
    intro fb a w1 hA hW
    generalize hf : flag1 S q.2 due now = f at hW
    cases hz : cond (f == 0) true (!q.2.h.up) with
    | true =>
      refine pk_runF (F := []) fit safe 300 [.d true] [true, true] []
        (fun ν => ⟨[cond (f == 0) true (!q.2.h.up)], [true], [], .ret (i64 0) (facts [spE S n 1, portE q])⟩)
        hA hW.nilr (fun ν => by kernel_rfl) (fun _ => by simp only [hz]) (fun _ => trivial) (fun ν w2 hW2 => ⟨?_, hback w2 (hW2 _ rfl)⟩)
      rw [flagsF, hf, if_pos hz]
    | false =>
      refine pk_runF (F := []) fit safe 300 [.d false, .stop] [true, true, true] [0, 1, 2, 3, 9, 10, 84, 89]
        (fun ν => ⟨[cond (f == 0) true (!q.2.h.up)], [false], [], .stop (.ops [0, 1, 1, 1, 1, 1, 1] 6 :: kRest b32 [0, 1, 1, 1, 1, 1, 1]) (frO S q.1 fb due now ++ [(84, .val (putT fb)), (89, .val (sv (.bool (q.2.state != 0))))]) [spE S n 1, portE q, flE fb f]⟩)
        hA hW.nilr (fun ν => by kernel_rfl) (fun _ => by simp only [hz]) (fun _ => trivial) (fun ν a w2 hA hW => ?_)
      refine pk_turn fit (put_turn fb (q.2.state != 0) 16 f) (F := [spE S n 1, portE q]) (match nth (opsOf (sub b32 [0, 1, 1, 1, 1, 1, 1])) 6 with | some o => o | none => default) (.tmp 84) #[.tmp 89, .const (i64 16)]
        (match (match nth (opsOf (sub b32 [0, 1, 1, 1, 1, 1, 1])) 6 with | some o => o | none => default).op with | .call c => c.argTypes | _ => #[]) #[] #[ptr fb] (.many [.loc 2 0 0]) [sv (.bool (q.2.state != 0)), sv (i64 16)]
        (by kernel_rfl) (by kernel_rfl) (by kernel_rfl) hA (by rfl) (by rfl) Try.func42 (b' := bodyOf Try.f42) rfl (by rfl) (hW.append_comm (A := [spE S n 1, portE q])) (fun w3 hW => ?_)
      replace hW := WI.append_comm (B := [spE S n 1, portE q]) hW
      refine pk_runF (F := []) fit safe 300 [.stop] [true, true, true] [0, 1, 2, 3, 9, 10, 91, 96]
        (fun ν => ⟨[], [], [], .stop (.ops [0, 1, 1, 1, 1, 1, 1, 1] 6 :: kRest b32 [0, 1, 1, 1, 1, 1, 1, 1]) (frO S q.1 fb due now ++ [(91, .val (putT fb)), (96, .val (sv (.bool (q.2.state == 2))))]) [spE S n 1, portE q, flE fb (putB (q.2.state != 0) 16 f)]⟩)
        (hA.put (dst := some 90) (se := .junk) (v := unit) (by kernel_rfl) trivial) hW.nilr (fun ν => by kernel_rfl) (fun _ => rfl) (fun _ => trivial) (fun ν a w2 hA hW => ?_)
      refine pk_turn fit (put_turn fb (q.2.state == 2) 32 (putB (q.2.state != 0) 16 f)) (F := [spE S n 1, portE q]) (match nth (opsOf (sub b32 [0, 1, 1, 1, 1, 1, 1, 1])) 6 with | some o => o | none => default) (.tmp 91) #[.tmp 96, .const (i64 32)]
        (match (match nth (opsOf (sub b32 [0, 1, 1, 1, 1, 1, 1, 1])) 6 with | some o => o | none => default).op with | .call c => c.argTypes | _ => #[]) #[] #[ptr fb] (.many [.loc 2 0 0]) [sv (.bool (q.2.state == 2)), sv (i64 32)]
        (by kernel_rfl) (by kernel_rfl) (by kernel_rfl) hA (by rfl) (by rfl) Try.func42 (b' := bodyOf Try.f42) rfl (by rfl) (hW.append_comm (A := [spE S n 1, portE q])) (fun w3 hW => ?_)
      replace hW := WI.append_comm (B := [spE S n 1, portE q]) hW
      refine pk_runF (F := []) fit safe 300 [.stop] [true, true, true] [0, 1, 2, 3, 9, 10, 98, 104]
        (fun ν => ⟨[], [], [], .stop (.ops [0, 1, 1, 1, 1, 1, 1, 1, 1] 7 :: kRest b32 [0, 1, 1, 1, 1, 1, 1, 1, 1]) (frO S q.1 fb due now ++ [(98, .val (putT fb)), (104, .val (sv (.bool (decide (now < S.change)))))]) [spE S n 1, portE q, flE fb (putB (q.2.state == 2) 32 (putB (q.2.state != 0) 16 f))]⟩)
        (hA.put (dst := some 97) (se := .junk) (v := unit) (by kernel_rfl) trivial) hW.nilr (fun ν => by kernel_rfl) (fun _ => rfl) (fun _ => trivial) (fun ν a w2 hA hW => ?_)
      refine pk_turn fit (put_turn fb (decide (now < S.change)) 1 (putB (q.2.state == 2) 32 (putB (q.2.state != 0) 16 f))) (F := [spE S n 1, portE q]) (match nth (opsOf (sub b32 [0, 1, 1, 1, 1, 1, 1, 1, 1])) 7 with | some o => o | none => default) (.tmp 98) #[.tmp 104, .const (i64 1)]
        (match (match nth (opsOf (sub b32 [0, 1, 1, 1, 1, 1, 1, 1, 1])) 7 with | some o => o | none => default).op with | .call c => c.argTypes | _ => #[]) #[] #[ptr fb] (.many [.loc 2 0 0]) [sv (.bool (decide (now < S.change))), sv (i64 1)]
        (by kernel_rfl) (by kernel_rfl) (by kernel_rfl) hA (by rfl) (by rfl) Try.func42 (b' := bodyOf Try.f42) rfl (by rfl) (hW.append_comm (A := [spE S n 1, portE q])) (fun w3 hW => ?_)
      replace hW := WI.append_comm (B := [spE S n 1, portE q]) hW
      refine pk_runF (F := []) fit safe 300 [] [true, true] []
        (fun ν => ⟨[], [], [], .ret (i64 (putB (decide (now < S.change)) 1 (putB (q.2.state == 2) 32 (putB (q.2.state != 0) 16 f)))) (facts [spE S n 1, portE q])⟩)
        (hA.put (dst := some 105) (se := .junk) (v := unit) (by kernel_rfl) trivial) hW.nilr (fun ν => by kernel_rfl) (fun _ => rfl) (fun _ => trivial) (fun ν w2 hW2 => ⟨?_, hback w2 (hW2 _ rfl)⟩)
      rw [flagsF, hf, if_neg (by simp [hz])]
  cases hr : (q.2.role == 2) with
  | true =>
    have hf1 : flag1 S q.2 due now = putB (cond due (q.2.state != 2) false) 2 (putB due 12 0) := by rw [flag1, if_pos hr]
    rw [hf1] at hC
    refine pk_runF (w0 := w) (D := blocksOf [spE S n 1, portE q]) (H := [spE S n 1, portE q]) (F := []) fit safe 300 [.d true, .stop] [true, true, true] [0, 1, 2, 3, 9, 10, 24, 25]
      (fun ν => ⟨[q.2.role == 2], [true], [], .stop (.ops [0, 0, 1, 0, 1, 1, 1, 1] 2 :: kRest b32 [0, 0, 1, 0, 1, 1, 1, 1]) (frO S q.1 (ν 1).1 due now ++ [(24, .val (putT (ν 1).1)), (25, .val (sv (.bool due)))]) [spE S n 1, portE q, flE (ν 1).1 0]⟩)
      hA (WI.start hO) (fun ν => by kernel_rfl) (fun _ => by simp [hr]) (fun _ => trivial) (fun ν a w2 hA hW => ?_)
    generalize (ν 1).1 = fb at hA hW
    refine pk_turn fit (put_turn fb (due) 12 0) (F := [spE S n 1, portE q]) (match nth (opsOf (sub b32 [0, 0, 1, 0, 1, 1, 1, 1])) 2 with | some o => o | none => default) (.tmp 24) #[.tmp 25, .const (i64 12)]
      (match (match nth (opsOf (sub b32 [0, 0, 1, 0, 1, 1, 1, 1])) 2 with | some o => o | none => default).op with | .call c => c.argTypes | _ => #[]) #[] #[ptr fb] (.many [.loc 2 0 0]) [sv (.bool due), sv (i64 12)]
      (by kernel_rfl) (by kernel_rfl) (by kernel_rfl) hA (by rfl) (by rfl) Try.func42 (b' := bodyOf Try.f42) rfl (by rfl) (hW.append_comm (A := [spE S n 1, portE q])) (fun w3 hW => ?_)
    replace hW := WI.append_comm (B := [spE S n 1, portE q]) hW
    refine pk_runF (F := []) fit safe 300 [.stop] [true, true, true] [0, 1, 2, 3, 9, 10, 27, 35]
      (fun ν => ⟨[], [], [], .stop (.ops [1, 0, 1, 0, 1, 1, 1, 1] 9 :: kRest b32 [1, 0, 1, 0, 1, 1, 1, 1]) (frO S q.1 fb due now ++ [(27, .val (putT fb)), (35, .val (sv (.bool (cond due (q.2.state != 2) false))))]) [spE S n 1, portE q, flE fb (putB due 12 0)]⟩)
      (hA.put (dst := some 26) (se := .junk) (v := unit) (by kernel_rfl) trivial) hW.nilr (fun ν => by kernel_rfl) (fun _ => rfl) (fun _ => trivial) (fun ν a w2 hA hW => ?_)
    refine pk_turn fit (put_turn fb (cond due (q.2.state != 2) false) 2 (putB due 12 0)) (F := [spE S n 1, portE q]) (match nth (opsOf (sub b32 [1, 0, 1, 0, 1, 1, 1, 1])) 9 with | some o => o | none => default) (.tmp 27) #[.tmp 35, .const (i64 2)]
      (match (match nth (opsOf (sub b32 [1, 0, 1, 0, 1, 1, 1, 1])) 9 with | some o => o | none => default).op with | .call c => c.argTypes | _ => #[]) #[] #[ptr fb] (.many [.loc 2 0 0]) [sv (.bool (cond due (q.2.state != 2) false)), sv (i64 2)]
      (by kernel_rfl) (by kernel_rfl) (by kernel_rfl) hA (by rfl) (by rfl) Try.func42 (b' := bodyOf Try.f42) rfl (by rfl) (hW.append_comm (A := [spE S n 1, portE q])) (fun w3 hW => ?_)
    replace hW := WI.append_comm (B := [spE S n 1, portE q]) hW
    refine pk_runF (F := []) fit safe 300 [.cut [0, 0, 1, 1, 1, 1, 1]] [true, true, true] [0, 1, 2, 3, 9, 10]
      (fun ν => ⟨[], [], [], .stop (kAt b32 [0, 0, 1, 1, 1, 1, 1]) (frO S q.1 fb due now) [spE S n 1, portE q, flE fb (putB (cond due (q.2.state != 2) false) 2 (putB due 12 0))]⟩)
      (hA.put (dst := some 36) (se := .junk) (v := unit) (by kernel_rfl) trivial) hW.nilr (fun ν => by kernel_rfl) (fun _ => rfl) (fun _ => trivial) (fun ν a w4 hA hW => hC fb a w4 hA hW)
  | false =>
    have hf1 : flag1 S q.2 due now = putB q.2.reply 64 (putB (cond (says S q.2 due now) (!(q.2.role == 1)) false) 4 (putB (cond (says S q.2 due now) (q.2.role == 1) false) 8 0)) := by rw [flag1, if_neg (by simp [hr])]
    rw [hf1] at hC
    refine pk_runF (w0 := w) (D := blocksOf [spE S n 1, portE q]) (H := [spE S n 1, portE q]) (F := []) fit safe 300 [.d false, .stop] [true, true, true] [0, 1, 2, 3, 9, 10, 11, 12, 55, 59]
      (fun ν => ⟨[q.2.role == 2], [false], [], .stop (.ops [0, 1, 1, 1, 0, 1, 1, 1, 1] 5 :: kRest b32 [0, 1, 1, 1, 0, 1, 1, 1, 1]) (frO S q.1 (ν 1).1 due now ++ [(11, .val (sv (.bool (q.2.role == 1)))), (12, .val (sv (.bool (says S q.2 due now)))), (55, .val (putT (ν 1).1)), (59, .val (sv (.bool (cond (says S q.2 due now) (q.2.role == 1) false))))]) [spE S n 1, portE q, flE (ν 1).1 0]⟩)
      hA (WI.start hO) (fun ν => by kernel_rfl) (fun _ => by simp [hr]) (fun _ => trivial) (fun ν a w2 hA hW => ?_)
    generalize (ν 1).1 = fb at hA hW
    refine pk_turn fit (put_turn fb ((cond (says S q.2 due now) (q.2.role == 1) false)) 8 0) (F := [spE S n 1, portE q]) (match nth (opsOf (sub b32 [0, 1, 1, 1, 0, 1, 1, 1, 1])) 5 with | some o => o | none => default) (.tmp 55) #[.tmp 59, .const (i64 8)]
      (match (match nth (opsOf (sub b32 [0, 1, 1, 1, 0, 1, 1, 1, 1])) 5 with | some o => o | none => default).op with | .call c => c.argTypes | _ => #[]) #[] #[ptr fb] (.many [.loc 2 0 0]) [sv (.bool (cond (says S q.2 due now) (q.2.role == 1) false)), sv (i64 8)]
      (by kernel_rfl) (by kernel_rfl) (by kernel_rfl) hA (by rfl) (by rfl) Try.func42 (b' := bodyOf Try.f42) rfl (by rfl) (hW.append_comm (A := [spE S n 1, portE q])) (fun w3 hW => ?_)
    replace hW := WI.append_comm (B := [spE S n 1, portE q]) hW
    refine pk_runF (F := []) fit safe 300 [.stop] [true, true, true] [0, 1, 2, 3, 9, 10, 11, 12, 61, 66]
      (fun ν => ⟨[], [], [], .stop (.ops [0, 1, 1, 1, 1, 0, 1, 1, 1, 1] 6 :: kRest b32 [0, 1, 1, 1, 1, 0, 1, 1, 1, 1]) (frO S q.1 fb due now ++ [(11, .val (sv (.bool (q.2.role == 1)))), (12, .val (sv (.bool (says S q.2 due now)))), (61, .val (putT fb)), (66, .val (sv (.bool (cond (says S q.2 due now) (!(q.2.role == 1)) false))))]) [spE S n 1, portE q, flE fb (putB (cond (says S q.2 due now) (q.2.role == 1) false) 8 0)]⟩)
      (hA.put (dst := some 60) (se := .junk) (v := unit) (by kernel_rfl) trivial) hW.nilr (fun ν => by kernel_rfl) (fun _ => rfl) (fun _ => trivial) (fun ν a w2 hA hW => ?_)
    refine pk_turn fit (put_turn fb ((cond (says S q.2 due now) (!(q.2.role == 1)) false)) 4 (putB (cond (says S q.2 due now) (q.2.role == 1) false) 8 0)) (F := [spE S n 1, portE q]) (match nth (opsOf (sub b32 [0, 1, 1, 1, 1, 0, 1, 1, 1, 1])) 6 with | some o => o | none => default) (.tmp 61) #[.tmp 66, .const (i64 4)]
      (match (match nth (opsOf (sub b32 [0, 1, 1, 1, 1, 0, 1, 1, 1, 1])) 6 with | some o => o | none => default).op with | .call c => c.argTypes | _ => #[]) #[] #[ptr fb] (.many [.loc 2 0 0]) [sv (.bool (cond (says S q.2 due now) (!(q.2.role == 1)) false)), sv (i64 4)]
      (by kernel_rfl) (by kernel_rfl) (by kernel_rfl) hA (by rfl) (by rfl) Try.func42 (b' := bodyOf Try.f42) rfl (by rfl) (hW.append_comm (A := [spE S n 1, portE q])) (fun w3 hW => ?_)
    replace hW := WI.append_comm (B := [spE S n 1, portE q]) hW
    refine pk_runF (F := []) fit safe 300 [.stop] [true, true, true] [0, 1, 2, 3, 9, 10, 68, 72]
      (fun ν => ⟨[], [], [], .stop (.ops [1, 1, 1, 1, 1, 0, 1, 1, 1, 1] 5 :: kRest b32 [1, 1, 1, 1, 1, 0, 1, 1, 1, 1]) (frO S q.1 fb due now ++ [(68, .val (putT fb)), (72, .val (sv (.bool q.2.reply)))]) [spE S n 1, portE q, flE fb (putB (cond (says S q.2 due now) (!(q.2.role == 1)) false) 4 (putB (cond (says S q.2 due now) (q.2.role == 1) false) 8 0))]⟩)
      (hA.put (dst := some 67) (se := .junk) (v := unit) (by kernel_rfl) trivial) hW.nilr (fun ν => by kernel_rfl) (fun _ => rfl) (fun _ => trivial) (fun ν a w2 hA hW => ?_)
    refine pk_turn fit (put_turn fb (q.2.reply) 64 (putB (cond (says S q.2 due now) (!(q.2.role == 1)) false) 4 (putB (cond (says S q.2 due now) (q.2.role == 1) false) 8 0))) (F := [spE S n 1, portE q]) (match nth (opsOf (sub b32 [1, 1, 1, 1, 1, 0, 1, 1, 1, 1])) 5 with | some o => o | none => default) (.tmp 68) #[.tmp 72, .const (i64 64)]
      (match (match nth (opsOf (sub b32 [1, 1, 1, 1, 1, 0, 1, 1, 1, 1])) 5 with | some o => o | none => default).op with | .call c => c.argTypes | _ => #[]) #[] #[ptr fb] (.many [.loc 2 0 0]) [sv (.bool q.2.reply), sv (i64 64)]
      (by kernel_rfl) (by kernel_rfl) (by kernel_rfl) hA (by rfl) (by rfl) Try.func42 (b' := bodyOf Try.f42) rfl (by rfl) (hW.append_comm (A := [spE S n 1, portE q])) (fun w3 hW => ?_)
    replace hW := WI.append_comm (B := [spE S n 1, portE q]) hW
    refine pk_runF (F := []) fit safe 300 [.cut [0, 0, 1, 1, 1, 1, 1]] [true, true, true] [0, 1, 2, 3, 9, 10]
      (fun ν => ⟨[], [], [], .stop (kAt b32 [0, 0, 1, 1, 1, 1, 1]) (frO S q.1 fb due now) [spE S n 1, portE q, flE fb (putB q.2.reply 64 (putB (cond (says S q.2 due now) (!(q.2.role == 1)) false) 4 (putB (cond (says S q.2 due now) (q.2.role == 1) false) 8 0)))]⟩)
      (hA.put (dst := some 73) (se := .junk) (v := unit) (by kernel_rfl) trivial) hW.nilr (fun ν => by kernel_rfl) (fun _ => rfl) (fun _ => trivial) (fun ν a w4 hA hW => hC fb a w4 hA hW)
end Go.Proofs.Ytbbpmhbeohpmnaa
