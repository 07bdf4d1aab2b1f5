/- Bridges' numbers compared as the document says; lists of numbers; bridges' ids. -/
import Derived.Test.YtbbpmhbeohpmnaaSpS
namespace Go.Proofs.Ytbbpmhbeohpmnaa
open Rx Go.RowKit

def numS (s : Nat) (x : UInt8) : Nat := (s * 256 % 18446744073709551616 + x.toNat % 18446744073709551616) % 18446744073709551616
def numN (m : Mac) : Nat := numS (numS (numS (numS (numS ((0 + m.a.toNat % 18446744073709551616) % 18446744073709551616) m.b) m.c) m.d) m.e) m.f
theorem num_any (m : Mac) : PureCall Try.prog 41 [m.val] (.int .u64 (numN m)) :=
  pure_run fit safe Try.func41 rfl [sv m.val] 400 [.go 7, .dc true, .ixc 0 0, .dc true, .ixc 0 1, .dc true, .ixc 0 2, .dc true, .ixc 0 3, .dc true, .ixc 0 4, .dc true, .ixc 0 5, .dc false] [] [] (fun _ => []) (fun ν => by kernel_rfl) rfl (fun _ => trivial)

def cmpN (a b : Mac) : Int := if numN a < numN b then -1 else if numN a > numN b then 1 else 0
theorem cmpN_any (a b : Mac) : PureCall Try.prog 26 [a.val, b.val] (i64 (cmpN a b)) := by
  have hps : ∀ ν : Nat → Nat × Nat, All [PureCall Try.prog 41 [a.val] (.int .u64 (numN a)), PureCall Try.prog 41 [b.val] (.int .u64 (numN b))] := fun _ => ⟨num_any a, num_any b⟩
  by_cases h1 : numN a < numN b
  · rw [cmpN, if_pos h1]
    exact pure_run fit safe Try.func26 rfl [sv a.val, sv b.val] 400 [.pure (.int .u64 (numN a)), .pure (.int .u64 (numN b)), .d true] [decide ((numN a : Int) < (numN b : Int))] [true] _ (fun ν => by kernel_rfl) (by simp; omega) hps
  · rw [cmpN, if_neg h1]
    by_cases h2 : numN a > numN b
    · rw [if_pos h2]
      exact pure_run fit safe Try.func26 rfl [sv a.val, sv b.val] 400 [.pure (.int .u64 (numN a)), .pure (.int .u64 (numN b)), .d false, .d true] [decide ((numN a : Int) < (numN b : Int)), decide ((numN a : Int) > (numN b : Int))] [false, true] _ (fun ν => by kernel_rfl) (by simp; omega) hps
    · rw [if_neg h2]
      exact pure_run fit safe Try.func26 rfl [sv a.val, sv b.val] 400 [.pure (.int .u64 (numN a)), .pure (.int .u64 (numN b)), .d false, .d false] [decide ((numN a : Int) < (numN b : Int)), decide ((numN a : Int) > (numN b : Int))] [false, false] _ (fun ν => by kernel_rfl) (by simp; omega) hps

def cmpR (a b : BId) : Int := if a.prio < b.prio then -1 else if a.prio > b.prio then 1 else cmpN a.mac b.mac
theorem cmpR_any (a b : BId) : PureCall Try.prog 7 [a.val, b.val] (i64 (cmpR a b)) := by
  by_cases h1 : a.prio < b.prio
  · rw [cmpR, if_pos h1]
    exact pure_run fit safe Try.func7 rfl [sv a.val, sv b.val] 400 [.d true] [decide (a.prio < b.prio)] [true] (fun _ => []) (fun ν => by kernel_rfl) (by simp; omega) (fun _ => trivial)
  · rw [cmpR, if_neg h1]
    by_cases h2 : a.prio > b.prio
    · rw [if_pos h2]
      exact pure_run fit safe Try.func7 rfl [sv a.val, sv b.val] 400 [.d false, .d true] [decide (a.prio < b.prio), decide (a.prio > b.prio)] [false, true] (fun _ => []) (fun ν => by kernel_rfl) (by simp; omega) (fun _ => trivial)
    · rw [if_neg h2]
      exact pure_run fit safe Try.func7 rfl [sv a.val, sv b.val] 400 [.d false, .d false, .pure (i64 (cmpN a.mac b.mac))] [decide (a.prio < b.prio), decide (a.prio > b.prio)] [false, false] (fun _ => [PureCall Try.prog 26 [a.mac.val, b.mac.val] (i64 (cmpN a.mac b.mac))]) (fun ν => by kernel_rfl) (by simp; omega) (fun _ => cmpN_any a.mac b.mac)

def idOf (n : Int) : BId := ⟨32768, ⟨2, 0, 0, 0, 0, UInt8.ofNat (IntKind.u8.wrap n).toNat⟩⟩
theorem id_any (n : Int) : PureCall Try.prog 12 [i64 n] (.agg #[i64 32768, .int .u8 2, .int .u8 0, .int .u8 0, .int .u8 0, .int .u8 0, .int .u8 (IntKind.u8.wrap n)]) :=
  pure_run fit safe Try.func12 rfl [sv (i64 n)] 400 [] [] [] (fun _ => []) (fun ν => by kernel_rfl) rfl (fun _ => trivial)

noncomputable abbrev bSI : Code := bodyOf Try.f14
abbrev frSI (va vb : Value) (k : Int) : Fr := [(0, .val (sv va)), (1, .val (sv vb)), (5, .val (sv (i64 k)))]

theorem same_read (I : List HE) (va vb : Value) (la lb : List Int) (ha : SliceIn I va (ints la)) (hb : SliceIn I vb (ints lb)) (hn : la.length < 2 ^ 40) : ReadCall Try.prog I 14 [va, vb] (.bool (decide (la = lb))) := by
  intro w hO
  have hla : ∀ Z H, ReadOp Try.prog Z H (opK bSI [0, 0, 1] 1) [va] (i64 la.length) := fun Z H => by rw [← ints_len]; exact ha.len (P := Try.prog) (e := 3) rfl (by kernel_rfl)
  have hlb : ∀ Z H, ReadOp Try.prog Z H (opK bSI [0, 0, 1] 3) [vb] (i64 lb.length) := fun Z H => by rw [← ints_len]; exact hb.len (P := Try.prog) (e := 3) rfl (by kernel_rfl)
  refine calls_pk (ys := [sv va, sv vb]) Try.func14 (body := bSI) rfl fun a hA => ?_
  by_cases hl : la.length = lb.length
  · refine pk_run2 (w0 := w) (D := blocksOf I) fit safe 100 [.rd [] (i64 la.length) .no, .rd [] (i64 lb.length) .no, .d false] [] [] [0, 1, 5]
      (fun _ => ⟨[(la.length : Int) != (lb.length : Int)], [false], [_, _], .stop (kAt bSI [0, 1, 0, 1, 1]) (frSI va vb (0 : Nat)) [] I⟩)
      hA (H := []) (WI.start hO) (fun ν => by kernel_rfl) (fun _ => by simp [hl]) (fun _ => ⟨hla (Beside [] I) [], hlb (Beside [] I) []⟩) (fun ν a w1 hA hW => ?_)
    refine pk_range (b := child 0 (sub bSI [0, 1, 0, 1, 1])) rfl la.length (fun k a w1 => la.take k = lb.take k ∧ Agrees 26 (frSI va vb (k : Nat)) a ∧ WI w (blocksOf I) I w1) ?_ ?_ 0 a w1 (Nat.zero_le _) ⟨rfl, hA, hW⟩
    · rintro k a w1 hk ⟨he, hA, hW⟩ T hT
      have hB : ∀ w, Beside [] I w → Owns w I := fun w h => h.1
      have hka : la[k]? = some la[k] := by simp [hk]
      have hkb : lb[k]? = some (lb[k]'(by omega)) := by simp [hl ▸ hk]
      generalize la[k] = x at hka
      generalize lb[k]'(by omega) = y at hkb
      have hlc : ReadOp Try.prog (Beside [] I) [] (opK bSI [0, 0, 0, 0, 1, 0, 1, 1] 2) [va] (i64 la.length) := by rw [← ints_len]; exact ha.len (P := Try.prog) (e := 3) rfl (by kernel_rfl)
      have q1 : ReadOp Try.prog (Beside [] I) [] (opK bSI [0, 0, 0, 1, 0, 0, 1, 0, 1, 1] 2) [va, i64 k] (.pointer (some ((addrOf va).add (k * 1)))) := ha.index (P := Try.prog) (e := 3) rfl (by kernel_rfl) (by kernel_rfl) (by rw [ints_len]; exact hk)
      have q2 : ReadOp Try.prog (Beside [] I) [] (opK bSI [0, 0, 0, 1, 0, 0, 1, 0, 1, 1] 3) [.pointer (some ((addrOf va).add (k * 1)))] (i64 x) := ha.load (P := Try.prog) hB rfl (by kernel_rfl) (by simp [ints, hka])
      have q3 : ReadOp Try.prog (Beside [] I) [] (opK bSI [0, 0, 0, 1, 0, 0, 1, 0, 1, 1] 6) [vb, i64 k] (.pointer (some ((addrOf vb).add (k * 1)))) := hb.index (P := Try.prog) (e := 3) rfl (by kernel_rfl) (by kernel_rfl) (by rw [ints_len]; omega)
      have q4 : ReadOp Try.prog (Beside [] I) [] (opK bSI [0, 0, 0, 1, 0, 0, 1, 0, 1, 1] 7) [.pointer (some ((addrOf vb).add (k * 1)))] (i64 y) := hb.load (P := Try.prog) hB rfl (by kernel_rfl) (by simp [ints, hkb])
      by_cases hxy : x = y
      · refine pk_run2 (H := []) fit safe 100 [.rd [] (i64 la.length) .no, .d true, .rd [] (.pointer (some ((addrOf va).add (k * 1)))) .no, .rd [] (i64 x) .no, .rd [] (.pointer (some ((addrOf vb).add (k * 1)))) .no, .rd [] (i64 y) .no, .d false] [] [] [0, 1, 5]
          (fun _ => ⟨[decide ((k : Int) < (la.length : Int)), x != y], [true, false], [_, _, _, _, _], .stop (.goal T :: kRest bSI [0, 1, 0, 1, 1]) (frSI va vb (wr ((k : Int) + 1))) [] I⟩)
          hA hW (fun ν => by kernel_rfl) (fun _ => by simp [hxy]; omega) (fun _ => ⟨hlc, q1, q2, q3, q4⟩) (fun ν a w2 hA hW2 => ?_)
        rw [wr_nat (by omega)] at hA
        refine hT a w2 ⟨?_, hA, hW2⟩
        rw [List.take_add_one, List.take_add_one, he, hka, hkb, hxy]
      · have hne : (decide (la = lb)) = false := by
          simp only [decide_eq_false_iff_not]
          rintro rfl
          rw [hka] at hkb
          exact hxy (Option.some.inj hkb)
        rw [hne]
        refine pk_run2 (H := []) fit safe 100 [.rd [] (i64 la.length) .no, .d true, .rd [] (.pointer (some ((addrOf va).add (k * 1)))) .no, .rd [] (i64 x) .no, .rd [] (.pointer (some ((addrOf vb).add (k * 1)))) .no, .rd [] (i64 y) .no, .d true] [] [] []
          (fun _ => ⟨[decide ((k : Int) < (la.length : Int)), x != y], [true, true], [_, _, _, _, _], .ret (.bool false) [] I⟩)
          hA hW (fun ν => by kernel_rfl) (fun _ => by simp [hxy]; omega) (fun _ => ⟨hlc, q1, q2, q3, q4⟩) (fun ν w2 hW2 => ⟨rfl, (hW2 [] rfl).kept hO⟩)
    · rintro a w1 ⟨he, hA, hW⟩ T
      have hlc : ReadOp Try.prog (Beside [] I) [] (opK bSI [0, 0, 0, 0, 1, 0, 1, 1] 2) [va] (i64 la.length) := by rw [← ints_len]; exact ha.len (P := Try.prog) (e := 3) rfl (by kernel_rfl)
      have hyes : (decide (la = lb)) = true := by
        simp only [decide_eq_true_eq]
        rw [← List.take_length (l := la), he, hl, List.take_length]
      rw [hyes]
      refine pk_run2 (H := []) fit safe 100 [.rd [] (i64 la.length) .no, .d false] [] [] []
        (fun _ => ⟨[decide ((la.length : Int) < (la.length : Int))], [false], [_], .ret (.bool true) [] I⟩)
        hA hW (fun ν => by kernel_rfl) (fun _ => by simp) (fun _ => hlc) (fun ν w2 hW2 => ⟨rfl, (hW2 [] rfl).kept hO⟩)
  · have hne : (decide (la = lb)) = false := by
      simp only [decide_eq_false_iff_not]
      rintro rfl
      exact hl rfl
    rw [hne]
    refine pk_run2 (w0 := w) (D := blocksOf I) fit safe 100 [.rd [] (i64 la.length) .no, .rd [] (i64 lb.length) .no, .d true] [] [] []
      (fun _ => ⟨[(la.length : Int) != (lb.length : Int)], [true], [_, _], .ret (.bool false) [] I⟩)
      hA (H := []) (WI.start hO) (fun ν => by kernel_rfl) (fun _ => by simp; omega) (fun _ => ⟨hla (Beside [] I) [], hlb (Beside [] I) []⟩) (fun ν w2 hW2 => ⟨rfl, (hW2 [] rfl).kept hO⟩)
end Go.Proofs.Ytbbpmhbeohpmnaa
