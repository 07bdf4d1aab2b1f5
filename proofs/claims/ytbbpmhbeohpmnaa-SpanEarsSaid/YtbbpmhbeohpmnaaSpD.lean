/- A port, and what it hears. -/
import Derived.Test.YtbbpmhbeohpmnaaSpC
import Derived.Test.YtbbpmhbeohpmnaaEngF
namespace Go.Proofs.Ytbbpmhbeohpmnaa
open Rx Go.RowKit

def vecOf (b : Bpdu) : Vec := ⟨b.root, b.cost, b.bridge, b.port, 1⟩

theorem of_any (b : Bpdu) (hr : rightB b = true) (hk : b.kind ≠ 128) : PureCall Try.prog 38 [b.val, i64 1] (.tuple #[(vecOf b).val, i64 0]) :=
  pure_run fit safe Try.func38 rfl [sv b.val, sv (i64 1)] 300 [.pure (.bool true), .d false, .d false] [b.kind == 128, false] [false, false]
    (fun _ => [PureCall Try.prog 19 [b.val] (.bool true)]) (fun ν => by kernel_rfl) (by simp [hk]) (fun _ => hr ▸ right_any b)

structure Port where
  (h : Heard) (age til : Int) (edge : Bool) (role state on : Int) (agreed reply : Bool)
  deriving DecidableEq, Repr

def Port.cells (p : Port) : List Value := p.h.cells ++ [i64 p.age, i64 p.til, .bool p.edge, i64 p.role, i64 p.state, i64 p.on, .bool p.agreed, .bool p.reply]

def portE (q : Nat × Port) : HE := ⟨q.1, .cells 58 [known q.2.cells]⟩
def ptr (b : Nat) : Value := .pointer (some ⟨b, 0, none⟩)
abbrev wr (n : Int) : Int := IntKind.i64.wrap n
theorem wr_nat {k : Nat} (h : k < 2 ^ 62) : wr ((k : Int) + 1) = ((k + 1 : Nat) : Int) := wrap_nat h
theorem wr_int {k : Nat} (h : k < 2 ^ 62) : wr ((k : Int) + 1) = (k : Int) + 1 := wrap_nat h
abbrev unit : Value := .tuple #[]
def pv (b n : Nat) : TV := ⟨ptr b, .loc n 0 0⟩

def vecHeard (b : Bpdu) : Vec := ⟨b.root, b.cost, b.bridge, b.port, 0⟩
def hearsB (p : Port) (v : Vec) : Bool := cond (cond (!p.h.has) true (cond (idEq v.bridge p.h.v.bridge) (v.port == p.h.v.port) false)) true (decide (vecCmp v p.h.v ≤ 0))
def hearsP (p : Port) (b : Bpdu) (now : Int) : Port := { p with h := { p.h with v := vecHeard b, has := true }, age := b.age, til := wr (now + 6) }
def hears (p : Port) (b : Bpdu) (now : Int) : Port := if hearsB p (vecHeard b) = true then hearsP p b now else p

theorem hears_any (p : Port) (b : Bpdu) (now : Int) (pb : Nat) (hr : rightB b = true) (hk : b.kind ≠ 128) :
    Turns Try.prog [portE (pb, p)] 22 [ptr pb, b.val, i64 now] unit [portE (pb, hears p b now)] := by
  have hps : ∀ ν : Nat → Nat × Nat, All [PureCall Try.prog 38 [b.val, i64 1] (.tuple #[(vecOf b).val, i64 0]),
      (!cond (!p.h.has) true (cond (idEq (vecHeard b).bridge p.h.v.bridge) ((vecHeard b).port == p.h.v.port) false)) = true → PureCall Try.prog 39 [(vecHeard b).val, p.h.v.val] (i64 (vecCmp (vecHeard b) p.h.v))] :=
    fun _ => ⟨of_any b hr hk, fun _ => vecCmp_any _ _⟩
  by_cases h : hearsB p (vecHeard b) = true
  · rw [hears, if_pos h]
    exact turn_run fit safe Try.func22 rfl [pv pb 0, sv b.val, sv (i64 now)] [portE (pb, p)] [portE (pb, hearsP p b now)] 300
      [.pure (.tuple #[(vecOf b).val, i64 0]), .pure (i64 (vecCmp (vecHeard b) p.h.v)), .d true] [true] [hearsB p (vecHeard b)] [true] _ (fun ν => by kernel_rfl) (by rw [h]) hps
  · rw [hears, if_neg h]
    exact turn_run fit safe Try.func22 rfl [pv pb 0, sv b.val, sv (i64 now)] [portE (pb, p)] [portE (pb, p)] 300
      [.pure (.tuple #[(vecOf b).val, i64 0]), .pure (i64 (vecCmp (vecHeard b) p.h.v)), .d false] [true] [hearsB p (vecHeard b)] [false] _ (fun ν => by kernel_rfl) (by simpa using h) hps
end Go.Proofs.Ytbbpmhbeohpmnaa
