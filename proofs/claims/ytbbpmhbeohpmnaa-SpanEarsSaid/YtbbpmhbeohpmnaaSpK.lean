/- A port comes up. -/
import Derived.Test.YtbbpmhbeohpmnaaSpJ
namespace Go.Proofs.Ytbbpmhbeohpmnaa
open Rx Go.RowKit

def momentB (now : Int) : Bool := cond (decide (now ≥ 0)) (decide (now ≤ 1099511627776)) false
theorem moment_any (now : Int) : PureCall Try.prog 18 [i64 now] (.bool (momentB now)) :=
  pure_run fit safe Try.func18 rfl [sv (i64 now)] 300 [] [] [] (fun _ => []) (fun ν => by kernel_rfl) rfl (fun _ => trivial)

def Fair (ps : List (Nat × Port)) : Prop := 0 < ps.length ∧ Numbered ps ∧ fairOf ps = 0
def hdr (ps : List (Nat × Port)) : List (Int × Int) := ps.map fun q => (q.2.h.port, q.2.h.cost)

theorem Fair.of {ps ps' : List (Nat × Port)} (h : Fair ps) (he : hdr ps' = hdr ps) : Fair ps' := by
  have hl : ps'.length = ps.length := by have := congrArg List.length he; simpa [hdr] using this
  obtain ⟨h1, h2, h3⟩ := h
  refine ⟨by omega, fun k hk => ?_, ?_⟩
  · have := congrArg (fun l => l[k]?) he
    have hk' : k < ps.length := by omega
    simp [hdr, hk, hk'] at this
    rw [this.1]
    exact h2 k hk'
  · have hany : (ps'.any fun q => fairBad q.2.h) = (ps.any fun q => fairBad q.2.h) := by
      have e : ∀ l : List (Nat × Port), (l.any fun q => fairBad q.2.h) = (hdr l).any fun x => cond (cond (cond (decide (x.1 < 1)) true (decide (x.1 > 65535))) true (decide (x.2 < 1))) true (decide (x.2 > 200000000)) := by
        intro l
        simp only [hdr, List.any_map]
        rfl
      rw [e, e, he]
    rw [← h3]
    unfold fairOf
    rw [hl, hany]

def upP (p : Port) (up edge : Bool) : Port := { p with h := { p.h with up := up, has := false }, edge := cond up edge false }

noncomputable abbrev b26 : Code := bodyOf Try.f16

theorem sub_one {k : Nat} (h : k < 2 ^ 40) : wr ((k : Int) + 1 - 1) = (k : Int) := by
  rw [show (k : Int) + 1 - 1 = k by omega]
  exact wrap_small (by omega) (by omega)

theorem up_at (S : Sp) (pre : List (Nat × Port)) (q : Nat × Port) (post : List (Nat × Port)) (n : Nat) (hn : pre.length + (post.length + 1) = n) (hf : Fair (pre ++ q :: post)) (up edge : Bool) (now : Int) (hm : momentB now = true) :
    Turns Try.prog (memS S (pre ++ q :: post)) 16 [ptr S.b, i64 ((pre.length : Int) + 1), .bool up, .bool edge, i64 now] (i64 0)
      (memS (reckonOf S (pre ++ (q.1, upP q.2 up edge) :: post) now).1 (reckonOf S (pre ++ (q.1, upP q.2 up edge) :: post) now).2) := by
  intro w hO
  have hf' : Fair (pre ++ (q.1, upP q.2 up edge) :: post) := hf.of (by simp [hdr, upP])
  have h64 := fair_small hf.2.2
  have hl : (pre ++ q :: post).length = n := by simp; omega
  generalize hk : pre.length = k at *
  have hix : IxOk (wr ((k : Int) + 1 - 1)) n 0 1 (ptrs pre).length := by rw [sub_one (by omega)]; simp [IxOk, ptrs, hk]; omega
  refine calls_pk (ys := [pv S.b 0, sv (i64 ((k : Int) + 1)), sv (.bool up), sv (.bool edge), sv (i64 now)]) Try.func16 (body := b26) rfl fun a hA => ?_
  refine pk_runF fit safe 300 [.inl, .d false, .ix 1 0, .pure (.bool (momentB now)), .d false, .stop] [true, true, true, true] [0, 4, 38, 39]
    (fun ν => ⟨[cond (decide ((k : Int) + 1 < 1)) true (decide ((k : Int) + 1 > (n : Int))), !momentB now], [false, false], [IxOk (wr ((k : Int) + 1 - 1)) n 0 1 (ptrs pre).length, (true = true → PureCall Try.prog 18 [i64 now] (.bool (momentB now)))],
      .stop (.ops [0, 1, 1, 1, 1] 2 :: kRest b26 [0, 1, 1, 1, 1]) [(0, .val (pv S.b 0)), (4, .val (sv (i64 now))), (38, .val (pv S.b 0)), (39, .val (sv (i64 now)))] [spE S n 1, arrF S pre q post 3, mapE S, portE (q.1, upP q.2 up edge)]⟩)
    hA ((WI.start hO).like (focus_n S pre q post 1 3 n (by omega))) (fun ν => by kernel_rfl) (fun _ => by simp [hm]; omega) (fun _ => ⟨hix, fun _ => moment_any now⟩) (fun ν a w1 hA hW => ?_)
  have hW2 := hW.like (focus_n S pre (q.1, upP q.2 up edge) post 1 3 n (by omega)).symm
  refine pk_turn fit (reckon_turn S (pre ++ (q.1, upP q.2 up edge) :: post) hf'.1 hf'.2.1 hf'.2.2 now) (F := []) (match nth (opsOf (sub b26 [0, 1, 1, 1, 1])) 2 with | some o => o | none => default) (.func 23) #[.tmp 38, .tmp 39]
    (match (match nth (opsOf (sub b26 [0, 1, 1, 1, 1])) 2 with | some o => o | none => default).op with | .call c => c.argTypes | _ => #[]) #[] #[] .no [pv S.b 0, sv (i64 now)]
    (by kernel_rfl) (by kernel_rfl) (by kernel_rfl) hA (by rfl) (by rfl) Try.func23 (b' := b21) rfl (by rfl) (by rw [List.append_nil]; exact hW2) (fun w3 hW4 => ?_)
  rw [List.append_nil] at hW4
  refine pk_runF (H := []) fit safe 100 [] [] []
    (fun ν => ⟨[], [], [], .ret (i64 0) []⟩)
    (hA.put (dst := some 40) (se := .junk) (v := unit) (by kernel_rfl) trivial) hW4 (fun ν => by kernel_rfl) (fun _ => rfl) (fun _ => trivial) (fun ν w5 hW5 => ⟨rfl, ?_⟩)
  exact hW5 [] rfl
end Go.Proofs.Ytbbpmhbeohpmnaa
