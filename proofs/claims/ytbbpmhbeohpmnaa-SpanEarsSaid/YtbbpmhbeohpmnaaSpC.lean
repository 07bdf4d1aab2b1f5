/- What bridges tell one another: may it be? -/
import Derived.Test.YtbbpmhbeohpmnaaSpB
namespace Go.Proofs.Ytbbpmhbeohpmnaa
open Rx Go.RowKit

def u8Eq (x y : UInt8) : Bool := (x.toNat : Int) == (y.toNat : Int)
def macEq (x y : Mac) : Bool := u8Eq x.a y.a && (u8Eq x.b y.b && (u8Eq x.c y.c && (u8Eq x.d y.d && (u8Eq x.e y.e && (u8Eq x.f y.f && true)))))
def idEq (x y : BId) : Bool := (x.prio == y.prio) && (macEq x.mac y.mac && true)
def vecEq (x y : Vec) : Bool := idEq x.root y.root && ((x.cost == y.cost) && (idEq x.bridge y.bridge && ((x.port == y.port) && ((x.own == y.own) && true))))
def bpduEq (x y : Bpdu) : Bool := (x.kind == y.kind) && ((x.flags == y.flags) && (idEq x.root y.root && ((x.cost == y.cost) && (idEq x.bridge y.bridge &&
  ((x.port == y.port) && ((x.age == y.age) && ((x.maxAge == y.maxAge) && ((x.hello == y.hello) && ((x.forward == y.forward) && true)))))))))
def mac0 : Mac := ⟨0, 0, 0, 0, 0, 0⟩
def id0 : BId := ⟨0, mac0⟩

theorem u8Eq_iff (x y : UInt8) : u8Eq x y = true ↔ x = y := by
  simp only [u8Eq, beq_iff_eq]
  constructor
  · intro h; exact UInt8.toNat_inj.1 (by omega)
  · rintro rfl; rfl
theorem macEq_iff (x y : Mac) : macEq x y = true ↔ x = y := by
  cases x; cases y; simp [macEq, u8Eq_iff]
theorem idEq_iff (x y : BId) : idEq x y = true ↔ x = y := by
  cases x; cases y; simp [idEq, macEq_iff]
theorem vecEq_iff (x y : Vec) : vecEq x y = true ↔ x = y := by
  cases x; cases y; simp [vecEq, idEq_iff]
theorem bpduEq_iff (x y : Bpdu) : bpduEq x y = true ↔ x = y := by
  cases x; cases y; simp [bpduEq, idEq_iff]

def fitB (f : Bool) (x lim : Int) : Bool := cond (cond f (decide (x ≥ 0)) false) (decide (x < lim)) false

def rightF (b : Bpdu) : Bool := fitB (fitB (fitB (fitB (fitB (fitB (fitB (fitB (fitB true b.flags 256) b.root.prio 65536) b.cost 4294967296) b.bridge.prio 65536) b.port 65536) b.age 65536) b.maxAge 65536) b.hello 65536) b.forward 65536

def rightB (b : Bpdu) : Bool := if b.kind = 128 then bpduEq b ⟨b.kind, 0, id0, 0, id0, 0, 0, 0, 0, 0⟩ else if b.kind = 0 ∨ b.kind = 2 then rightF b else false

def walkHints : List Hint := [.inl, .inl, .go 12,
  .dc true, .ixc 0 0, .dc false, .inl, .dc true, .ixc 0 2, .dc false, .inl, .dc true, .ixc 0 4, .dc true, .ixc 0 0, .inl, .dc true, .ixc 0 6, .dc false, .inl,
  .dc true, .ixc 0 8, .dc false, .inl, .dc true, .ixc 0 10, .dc true, .ixc 0 1, .inl, .dc true, .ixc 0 12, .dc false, .inl, .dc true, .ixc 0 14, .dc false, .inl,
  .dc true, .ixc 0 16, .dc false, .inl, .dc true, .ixc 0 18, .dc false, .inl, .dc true, .ixc 0 20, .dc false, .inl, .dc false]

set_option maxRecDepth 100000 in
theorem right_any (b : Bpdu) : PureCall Try.prog 19 [b.val] (.bool (rightB b)) := by
  by_cases h1 : b.kind = 128
  · rw [rightB, if_pos h1]
    exact pure_run fit safe Try.func19 rfl [sv b.val] 2000 [.d true] [b.kind == 128] [true] (fun _ => []) (fun ν => by kernel_rfl) (by simp [h1]) (fun _ => trivial)
  · rw [rightB, if_neg h1]
    by_cases h2 : b.kind = 0
    · rw [if_pos (.inl h2)]
      exact pure_run fit safe Try.func19 rfl [sv b.val] 2000 (.d false :: .d true :: .d true :: walkHints) [b.kind == 128, b.kind == 0, b.kind == 0] [false, true, true] (fun _ => []) (fun ν => by kernel_rfl) (by simp [h2]) (fun _ => trivial)
    · by_cases h3 : b.kind = 2
      · rw [if_pos (.inr h3)]
        exact pure_run fit safe Try.func19 rfl [sv b.val] 2000 (.d false :: .d false :: .d true :: walkHints) [b.kind == 128, b.kind == 0, b.kind == 2] [false, false, true] (fun _ => []) (fun ν => by kernel_rfl) (by simp [h3]) (fun _ => trivial)
      · rw [if_neg (by simp [h2, h3])]
        exact pure_run fit safe Try.func19 rfl [sv b.val] 2000 [.d false, .d false, .d false] [b.kind == 128, b.kind == 0, b.kind == 2] [false, false, false] (fun _ => []) (fun ν => by kernel_rfl) (by simp [h1, h2, h3]) (fun _ => trivial)
end Go.Proofs.Ytbbpmhbeohpmnaa
