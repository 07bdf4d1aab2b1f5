/- Bridges, ways, what they tell one another: as data; and the small functions on them. -/
import Derived.Test.YtbbpmhbeohpmnaaEngE
import Derived.Test.YtbbpmhbeohpmnaaProg
namespace Go.Proofs.Ytbbpmhbeohpmnaa
open Rx Go.RowKit

structure Mac where
  (a b c d e f : UInt8)
  deriving DecidableEq, Repr
structure BId where
  (prio : Int) (mac : Mac)
  deriving DecidableEq, Repr
structure Vec where
  (root : BId) (cost : Int) (bridge : BId) (port own : Int)
  deriving DecidableEq, Repr
structure Bpdu where
  (kind flags : Int) (root : BId) (cost : Int) (bridge : BId) (port age maxAge hello forward : Int)
  deriving DecidableEq, Repr
structure Heard where
  (port cost : Int) (up has : Bool) (v : Vec)
  deriving DecidableEq, Repr

abbrev i64 (n : Int) : Value := .int .i64 n
abbrev u8 (n : UInt8) : Value := .int .u8 (n.toNat : Int)

def Mac.cells (m : Mac) : List Value := [u8 m.a, u8 m.b, u8 m.c, u8 m.d, u8 m.e, u8 m.f]
def BId.cells (i : BId) : List Value := i64 i.prio :: i.mac.cells
def Vec.cells (v : Vec) : List Value := v.root.cells ++ i64 v.cost :: (v.bridge.cells ++ [i64 v.port, i64 v.own])
def Bpdu.cells (b : Bpdu) : List Value := i64 b.kind :: i64 b.flags :: (b.root.cells ++ i64 b.cost :: (b.bridge.cells ++ [i64 b.port, i64 b.age, i64 b.maxAge, i64 b.hello, i64 b.forward]))
def Heard.cells (h : Heard) : List Value := i64 h.port :: i64 h.cost :: .bool h.up :: .bool h.has :: h.v.cells
def Mac.val (m : Mac) : Value := .agg m.cells.toArray
def BId.val (m : BId) : Value := .agg m.cells.toArray
def Vec.val (m : Vec) : Value := .agg m.cells.toArray
def Bpdu.val (m : Bpdu) : Value := .agg m.cells.toArray

def sv (v : Value) : TV := ⟨v, .no⟩
def known (l : List Value) : Chunk := .kn (zipT l [])

theorem fine : Fine Try.prog := by
  have h : (Try.prog.funcs.toList.all fun fn => !(fn.name == "runtime.NumGoroutine")) = true := by kernel_rfl
  intro f fn hf
  have := List.all_eq_true.1 h fn (by rw [← Array.getElem?_toList] at hf; exact List.mem_of_getElem? hf)
  simpa using this
theorem fit : Fit Try.prog := ⟨fine, by kernel_rfl⟩

def safes : List TypeId := [23, 25, 39, 33]
theorem safe : SafeAll Try.prog safes := by
  intro t h
  rw [memN_iff] at h
  simp only [safes, List.mem_cons, List.not_mem_nil, or_false] at h
  rcases h with rfl | rfl | rfl | rfl <;> exact safe_mk (by kernel_rfl) (by kernel_rfl) (by kernel_rfl)

def cmpI (a b : Int) : Int := if a < b then -1 else if b < a then 1 else 0

theorem cmp_any (a b : Int) : PureCall Try.prog 50 [i64 a, i64 b] (i64 (cmpI a b)) := by
  have ha : (a != a) = false := by simp
  have hb : (b != b) = false := by simp
  by_cases h1 : a < b
  · rw [show cmpI a b = -1 from if_pos h1]
    exact pure_run fit safe Try.func50 rfl [sv (i64 a), sv (i64 b)] 300 [.inl, .inl, .d false, .d false, .d true] [a != a, b != b, decide (a < b)] [false, false, true] (fun _ => [])
      (fun ν => by kernel_rfl) (by simp [h1]) (fun _ => trivial)
  · by_cases h2 : b < a
    · rw [show cmpI a b = 1 by simp [cmpI, h1, h2]]
      exact pure_run fit safe Try.func50 rfl [sv (i64 a), sv (i64 b)] 300 [.inl, .inl, .d false, .d false, .d false, .d true] [a != a, b != b, decide (a < b), decide (a > b)] [false, false, false, true] (fun _ => [])
        (fun ν => by kernel_rfl) (by simp [h1, h2]) (fun _ => trivial)
    · rw [show cmpI a b = 0 by simp [cmpI, h1, h2]]
      exact pure_run fit safe Try.func50 rfl [sv (i64 a), sv (i64 b)] 300 [.inl, .inl, .d false, .d false, .d false, .d false] [a != a, b != b, decide (a < b), decide (a > b)] [false, false, false, false] (fun _ => [])
        (fun ν => by kernel_rfl) (by simp [h1, h2]) (fun _ => trivial)

def orI : List Int → Int
  | [] => 0
  | x :: r => if x = 0 then orI r else x

theorem orI_zeros : ∀ (xs : List Int) (k : Nat), k ≤ xs.length → (∀ j, j < k → xs[j]? = some 0) → orI xs = orI (xs.drop k)
  | _, 0, _, _ => by simp
  | [], k + 1, h, _ => by simp at h
  | x :: r, k + 1, h, hz => by
    have h0 := hz 0 (by omega)
    simp only [List.getElem?_cons_zero, Option.some.injEq] at h0
    subst h0
    simp only [orI, if_true, List.drop_succ_cons]
    exact orI_zeros r k (by simpa using h) (fun j hj => by simpa using hz (j + 1) (by omega))

theorem wrap_nat {k : Nat} (h : k < 2 ^ 62) : IntKind.i64.wrap ((k : Int) + 1) = ((k + 1 : Nat) : Int) := by
  simp only [IntKind.wrap, IntKind.bits, IntKind.signed]
  simp
  omega

noncomputable abbrev b48 : Code := bodyOf Try.f48

theorem or_any (xs : List Int) (b : Nat) (hn : xs.length < 2 ^ 40) : ReadCall Try.prog [⟨b, .cells 3 [.op (xs.map i64)]⟩] 48 [.slice (some ⟨b, 0, none⟩) xs.length xs.length] (i64 (orI xs)) := by
  intro w hO
  refine calls_pk (ys := [⟨.slice (some ⟨b, 0, none⟩) xs.length xs.length, .loc 0 0 0⟩]) Try.func48 (body := b48) rfl fun a hA => ?_
  refine pk_run fit safe 100 [] [true] [3, 6, 7, 8]
    (fun _ => ⟨[], [], [], .stop (kAt b48 [0, 1, 0, 1, 1]) [(3, .val (sv (i64 0))), (6, .val ⟨.slice (some ⟨b, 0, none⟩) xs.length xs.length, .loc 0 0 0⟩), (7, .val (sv (i64 xs.length))), (8, .val (sv (i64 (0 : Nat))))]
      [⟨b, .cells 3 [.op (xs.map i64)]⟩]⟩) hA (WI.start hO) (fun ν => by kernel_rfl) (fun _ => rfl) (fun _ => trivial) (fun ν a w' hA hW => ?_)
  refine pk_loop (b := child 0 (sub b48 [0, 1, 0, 1, 1])) rfl (fun m a w1 => ∃ k, k ≤ xs.length ∧ m = xs.length - k ∧ (∀ j, j < k → xs[j]? = some 0) ∧
    Agrees 18 [(3, .val (sv (i64 0))), (6, .val ⟨.slice (some ⟨b, 0, none⟩) xs.length xs.length, .loc 0 0 0⟩), (7, .val (sv (i64 xs.length))), (8, .val (sv (i64 (k : Nat))))] a ∧
    WI w (blocksOf [⟨b, .cells 3 [.op (xs.map i64)]⟩]) [⟨b, .cells 3 [.op (xs.map i64)]⟩] w1) ?_ _ a w' ⟨0, by omega, rfl, fun j hj => by omega, hA, hW⟩
  rintro m a w1 ⟨k, hk, rfl, hz, hA, hW⟩ T hT
  by_cases hlt : k < xs.length
  · have hx : xs[k]? = some xs[k] := by simp [hlt]
    have hmap : xs.map i64 = (xs.take k).map i64 ++ (i64 xs[k] :: (xs.drop (k + 1)).map i64) := by
      rw [← List.map_cons, ← List.drop_eq_getElem_cons hlt, ← List.map_append, List.take_append_drop]
    have hW' : WI w (blocksOf [⟨b, .cells 3 [.op (xs.map i64)]⟩]) [⟨b, .cells 3 [.op ((xs.take k).map i64), .kn [sv (i64 xs[k])], .op ((xs.drop (k + 1)).map i64)]⟩] w1 := by
      refine hW.same ?_
      simp only [List.map_cons, List.map_nil, HE.key, HO.obj, flat, Chunk.vals, valsOf, sv, List.cons_append, List.nil_append, hmap, HO.full]
    have hback : ∀ {w' : World}, WI w (blocksOf [⟨b, .cells 3 [.op (xs.map i64)]⟩]) [⟨b, .cells 3 [.op ((xs.take k).map i64), .kn [sv (i64 xs[k])], .op ((xs.drop (k + 1)).map i64)]⟩] w' →
        WI w (blocksOf [⟨b, .cells 3 [.op (xs.map i64)]⟩]) [⟨b, .cells 3 [.op (xs.map i64)]⟩] w' := fun h => h.same (by simp only [List.map_cons, List.map_nil, HE.key, HO.obj, flat, Chunk.vals, valsOf, sv, List.cons_append, List.nil_append, hmap, HO.full])
    by_cases h0 : xs[k] = 0
    · refine pk_run fit safe 100 [.d true, .ix 1 0, .d false] [true] [3, 6, 7, 8]
        (fun _ => ⟨[decide ((k : Int) < (xs.length : Int)), xs[k] != 0], [true, false], [IxOk k xs.length 0 1 ((xs.take k).map i64).length], .stop (.goal T :: kRest b48 [0, 1, 0, 1, 1]) [(3, .val (sv (i64 0))), (6, .val ⟨.slice (some ⟨b, 0, none⟩) xs.length xs.length, .loc 0 0 0⟩), (7, .val (sv (i64 xs.length))), (8, .val (sv (i64 (IntKind.i64.wrap ((k : Int) + 1)))))]
          [⟨b, .cells 3 [.op ((xs.take k).map i64), .kn [sv (i64 xs[k])], .op ((xs.drop (k + 1)).map i64)]⟩]⟩) hA hW' (fun ν => by kernel_rfl) (fun _ => by simp [h0]; omega) (fun _ => by simp [All, IxOk]; omega) (fun ν a w' hA hW => ?_)
      rw [wrap_nat (by omega)] at hA
      refine hT a w' (xs.length - (k + 1)) (by omega) ⟨k + 1, hlt, rfl, fun j hj => ?_, hA, hback hW⟩
      by_cases hjk : j = k
      · subst hjk; rw [hx, h0]
      · exact hz j (by omega)
    · refine pk_run fit safe 100 [.d true, .ix 1 0, .d true] [true] []
        (fun _ => ⟨[decide ((k : Int) < (xs.length : Int)), xs[k] != 0], [true, true], [IxOk k xs.length 0 1 ((xs.take k).map i64).length], .ret (i64 xs[k])
          [(b, .cells ((xs.take k).map i64 ++ (i64 xs[k] :: (xs.drop (k + 1)).map i64)).toArray 3 (0, 0))]⟩) hA hW' (fun ν => by kernel_rfl) (fun _ => by simp [h0]; omega) (fun _ => by simp [All, IxOk]; omega) (fun ν w' hF hfar => ?_)
      refine ⟨?_, below_of hfar ?_⟩
      · rw [orI_zeros xs k hk hz, List.drop_eq_getElem_cons hlt, orI, if_neg h0]
      · intro e he
        simp only [List.mem_singleton] at he
        subst he
        refine (hF.1 _ (List.mem_singleton.2 rfl)).trans ?_
        rw [← hmap]
        exact (hO.1 _ (List.mem_singleton.2 rfl) rfl).symm
  · have hkn : k = xs.length := by omega
    refine pk_run fit safe 100 [.d false] [true] []
      (fun _ => ⟨[decide ((k : Int) < (xs.length : Int))], [false], [], .ret (i64 0) [(b, .cells (xs.map i64).toArray 3 (0, 0))]⟩) hA hW (fun ν => by kernel_rfl) (fun _ => by simp; omega) (fun _ => trivial) (fun ν w' hF hfar => ?_)
    refine ⟨?_, below_of hfar ?_⟩
    · rw [orI_zeros xs k hk hz, hkn, List.drop_length, orI]
    · intro e he
      simp only [List.mem_singleton] at he
      subst he
      exact (hF.1 _ (List.mem_singleton.2 rfl)).trans (hO.1 _ (List.mem_singleton.2 rfl) rfl).symm
end Go.Proofs.Ytbbpmhbeohpmnaa
