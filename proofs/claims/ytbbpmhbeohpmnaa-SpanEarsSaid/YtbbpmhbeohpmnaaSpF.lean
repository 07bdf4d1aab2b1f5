/- Are ports right, and no two of one number? -/
import Derived.Test.YtbbpmhbeohpmnaaSpE
namespace Go.Proofs.Ytbbpmhbeohpmnaa
open Rx Go.RowKit

noncomputable abbrev b43 : Code := bodyOf Try.f43
def hE (hb : Nat) (ps : List (Nat × Port)) (c : Nat) : HE := ⟨hb, .cells 56 [.op (heardL ps ++ padZ heard0.val (c - ps.length))]⟩
def hF (hb : Nat) (pre : List (Nat × Port)) (q : Nat × Port) (post : List (Nat × Port)) (c : Nat) : HE := ⟨hb, .cells 56 [.op (heardL pre), known q.2.h.cells, .op (heardL post ++ padZ heard0.val (c - (pre.length + (post.length + 1))))]⟩

theorem known_vals (l : List Value) : (known l).vals = l := by
  have : ∀ l : List Value, valsOf (zipT l []) = l := by
    intro l
    induction l with
    | nil => rfl
    | cons a r ih => simp [zipT, valsOf, ih]
  exact this l

theorem op_vals (l : List Value) : (Chunk.op l).vals = l := rfl

theorem hE_key (hb : Nat) (pre : List (Nat × Port)) (q : Nat × Port) (post : List (Nat × Port)) (c : Nat) : (hE hb (pre ++ q :: post) c).key = (hF hb pre q post c).key := by
  have h1 : heardL (q :: post) = q.2.h.cells ++ heardL post := by simp [heardL]
  simp only [hE, hF, HE.key, HO.obj, HO.full, flat, op_vals, known_vals, heardL_append, h1, List.length_append, List.length_cons, List.append_assoc]

def fairBad (h : Heard) : Bool := cond (cond (cond (decide (h.port < 1)) true (decide (h.port > 65535))) true (decide (h.cost < 1))) true (decide (h.cost > 200000000))
def fairOf (ps : List (Nat × Port)) : Int := if 64 < ps.length then 1 else if ps.any (fun q => fairBad q.2.h) = true then 1 else 0
def Numbered (ps : List (Nat × Port)) : Prop := ∀ k (h : k < ps.length), (ps[k]).2.h.port = k + 1

def numK (k : Nat) : List (Int × Nat) := (List.range k).map fun (i : Nat) => ((i : Int) + 1, i)
theorem numK_has (k : Nat) : mHas (numK k) ((k : Int) + 1) = false := by
  rw [← Bool.not_eq_true]
  simp only [mHas, numK, List.any_eq_true, beq_iff_eq, List.mem_map, List.mem_range]
  rintro ⟨p, ⟨i, hi, rfl⟩, h⟩
  simp only at h
  omega
theorem numK_put (k : Nat) : mPut (numK k) k ((k : Int) + 1) = numK (k + 1) ∧ mClk (numK k) k ((k : Int) + 1) = k + 1 := by
  unfold mPut mClk
  rw [numK_has]
  simp [numK, List.range_succ]

def slH (hb n c : Nat) : TV := ⟨.slice (some ⟨hb, 0, none⟩) n c, .loc 0 0 0⟩
def mpV (mb : Nat) : TV := ⟨.map (some mb), .loc 0 0 0⟩
abbrev frF (hb n c mb : Nat) (k : Int) : Fr := [(0, .val (slH hb n c)), (3, .val (mpV mb)), (10, .val (slH hb n c)), (11, .val (sv (i64 n))), (12, .val (sv (i64 k)))]

theorem fair_any (hb c : Nat) (ps : List (Nat × Port)) (hN : Numbered ps) : ReadCall Try.prog [hE hb ps c] 43 [.slice (some ⟨hb, 0, none⟩) ps.length c] (i64 (fairOf ps)) := by
  by_cases hbig : 64 < ps.length
  · rw [fairOf, if_pos hbig]
    exact read_run fit safe Try.func43 (body := b43) rfl [slH hb ps.length c] [hE hb ps c] 100 [.d true] [true] [decide ((ps.length : Int) > 64)] [true] (fun _ => []) (fun ν => by kernel_rfl) (by simp; omega) (fun _ => trivial)
  intro w hO
  refine calls_pk (ys := [slH hb ps.length c]) Try.func43 (body := b43) rfl fun a hA => ?_
  refine pk_runF (w0 := w) (D := blocksOf [hE hb ps c]) (H := []) (F := [hE hb ps c]) fit safe 100 [.d false] [true] [0, 3, 10, 11, 12]
    (fun ν => ⟨[decide ((ps.length : Int) > 64)], [false], [], .stop (kAt b43 [0, 1, 0, 1, 1, 1]) (frF hb ps.length c (ν 1).1 (0 : Nat)) [⟨(ν 1).1, .other (mObj [] 0)⟩]⟩)
    hA (WI.start hO) (fun ν => by kernel_rfl) (fun _ => by simp; omega) (fun _ => trivial) (fun ν a w1 hA hW => ?_)
  generalize (ν 1).1 = mb at hA hW
  have hmb : mb ≠ hb := by
    have := hW.owns.2
    simp only [List.cons_append, List.nil_append, blocksOf, hE, List.nodup_cons, List.mem_singleton] at this
    exact this.1
  refine pk_range (b := child 0 (sub b43 [0, 1, 0, 1, 1, 1])) rfl ps.length (fun k a w1 => (∀ q ∈ ps.take k, fairBad q.2.h = false) ∧ Agrees 43 (frF hb ps.length c mb (k : Nat)) a ∧
    WI w (blocksOf [hE hb ps c]) [⟨mb, .other (mObj (numK k) k)⟩, hE hb ps c] w1) ?_ ?_ 0 a w1 (Nat.zero_le _) ⟨by simp, hA, hW⟩
  · rintro k a w1 hk ⟨hok, hA, hW⟩ T hT
    have hs := split_at hk
    have hps : ps.take (k + 1) = ps.take k ++ [ps[k]] := by rw [List.take_succ_eq_append_getElem hk]
    have hport := hN k hk
    generalize hq : ps[k] = q at hs hps hport
    generalize hpre : ps.take k = pre at hs hps hok
    generalize hpost : ps.drop (k + 1) = post at hs
    have hlp : pre.length = k := by rw [← hpre, List.length_take]; omega
    have hkey := hE_key hb pre q post c
    rw [← hs] at hkey
    have hW1 : WI w (blocksOf [hE hb ps c]) ([hF hb pre q post c] ++ [⟨mb, .other (mObj (numK k) k)⟩]) w1 := by
      refine hW.like ?_
      simp only [List.map_cons, List.map_nil, List.cons_append, List.nil_append, hkey]
      exact List.Perm.swap _ _ _
    cases hbad : fairBad q.2.h with
    | true =>
      refine pk_runF fit safe 100 [.d true, .ix 1 0, .d true] [true] []
        (fun ν => ⟨[decide ((k : Int) < (ps.length : Int)), fairBad q.2.h], [true, true], [IxOk k ps.length 0 21 (heardL pre).length], .ret (i64 1) (facts [hF hb pre q post c])⟩)
        hA hW1 (fun ν => by kernel_rfl) (fun _ => by simp [hbad]; omega) (fun _ => by simp [All, IxOk, heardL_len, hlp]; omega) (fun ν w2 hW2 => ?_)
      have hW3 := hW2 _ rfl
      refine ⟨?_, below_of (H := [hE hb ps c]) hW3.toFar fun e he => ?_⟩
      · have hany : (ps.any fun q => fairBad q.2.h) = true := by
          rw [hs]; simp [hbad]
        rw [fairOf, if_neg hbig, if_pos hany]
      · simp only [List.mem_singleton] at he
        subst he
        have e1 := hW3.owns.1 (hF hb pre q post c) (by simp) rfl
        have e2 := hO.1 (hE hb ps c) (by simp) rfl
        have e3 : (hE hb ps c).o.obj = (hF hb pre q post c).o.obj := congrArg (fun k => k.2.1) hkey
        exact e1.trans (e3 ▸ e2.symm)
    | false =>
      refine pk_runF fit safe 100 [.d true, .ix 1 0, .d false, .stop] [true] [0, 3, 10, 11, 12, 34, 36]
        (fun ν => ⟨[decide ((k : Int) < (ps.length : Int)), fairBad q.2.h], [true, false], [IxOk k ps.length 0 21 (heardL pre).length],
          .stop (.ops [1, 1, 0, 0, 1, 1, 0, 0, 1, 0, 1, 1, 1] 3 :: (kIn b43 [0, 1, 0, 1, 1, 1] [1, 1, 0, 0, 1, 1, 0, 0, 1, 0, 1, 1, 1] ++ .goal T :: kRest b43 [0, 1, 0, 1, 1, 1]))
            (frF hb ps.length c mb k ++ [(34, .val (mpV mb)), (36, .val (sv (i64 q.2.h.port)))]) [hF hb pre q post c]⟩)
        hA hW1 (fun ν => by kernel_rfl) (fun _ => by simp [hbad]; omega) (fun _ => by simp [All, IxOk, heardL_len, hlp]; omega) (fun ν a w2 hA hW2 => ?_)
      refine pk_put (match nth (opsOf (sub b43 [1, 1, 0, 0, 1, 1, 0, 0, 1, 0, 1, 1, 1])) 3 with | some o => o | none => default) (.tmp 34) (.tmp 36) 63 3 4 (tg := .loc 0 0 0) (tg' := .no) (k := q.2.h.port) (by kernel_rfl) (by kernel_rfl) (by kernel_rfl) hA (by rfl) (by rfl)
        (by kernel_rfl) (by kernel_rfl) hW2.append_comm (fun w3 hW3 => ?_)
      rw [hport, (numK_put k).1, (numK_put k).2] at hW3
      refine pk_runF (H := []) fit safe 100 [] [] [0, 3, 10, 11, 12]
        (fun ν => ⟨[], [], [], .stop (.goal T :: kRest b43 [0, 1, 0, 1, 1, 1]) (frF hb ps.length c mb (wr ((k : Int) + 1))) []⟩)
        (hA.put (dst := none) (se := .junk) (v := undef) rfl trivial) hW3 (fun ν => by kernel_rfl) (fun _ => rfl) (fun _ => trivial) (fun ν a w4 hA hW4 => ?_)
      rw [wr_nat (by omega)] at hA
      refine hT a w4 ⟨?_, hA, hW4.like ?_⟩
      · rw [hps]
        intro x hx
        rcases List.mem_append.1 hx with hx | hx
        · exact hok x hx
        · simp only [List.mem_singleton] at hx
          subst hx
          exact hbad
      · simp only [List.map_cons, List.map_nil, List.nil_append, hkey]
        exact List.Perm.refl _
  · rintro a w1 ⟨hok, hA, hW⟩ T
    rw [List.take_length] at hok
    refine pk_runF (H := []) fit safe 100 [.d false, .stopL] [] [0, 3, 38]
      (fun ν => ⟨[decide ((ps.length : Int) < (ps.length : Int))], [false], [], .stop (.ops [0, 0, 1, 1, 1, 1] 1 :: kRest b43 [0, 0, 1, 1, 1, 1]) [(0, .val (slH hb ps.length c)), (3, .val (mpV mb)), (38, .val (mpV mb))] []⟩)
      hA hW (fun ν => by kernel_rfl) (fun _ => by simp) (fun _ => trivial) (fun ν a w2 hA hW2 => ?_)
    refine pk_len_map (match nth (opsOf (sub b43 [0, 0, 1, 1, 1, 1])) 1 with | some o => o | none => default) (.tmp 38) 63 3 4 (tg := .loc 0 0 0) (by kernel_rfl) (by kernel_rfl) (by kernel_rfl) hA (by rfl) (by kernel_rfl) hW2 ?_
    have hlen : (numK ps.length).length = ps.length := by simp [numK]
    rw [hlen]
    refine pk_runF (H := []) fit safe 100 [.d false] [] []
      (fun ν => ⟨[decide ((ps.length : Int) < (ps.length : Int))], [false], [], .ret (i64 0) []⟩)
      (hA.put (dst := some 39) (se := .val (sv (i64 ps.length))) (by kernel_rfl) rfl) hW2 (fun ν => by kernel_rfl) (fun _ => by simp) (fun _ => trivial) (fun ν w3 hW3 => ?_)
    have hW4 := hW3 [] rfl
    refine ⟨?_, below_of (H := [hE hb ps c]) hW4.toFar fun e he => ?_⟩
    · have hany : ¬ (ps.any fun q => fairBad q.2.h) = true := by
        simp only [List.any_eq_true, not_exists, not_and, Bool.not_eq_true]
        exact hok
      rw [fairOf, if_neg hbig, if_neg hany]
    · simp only [List.mem_singleton] at he
      subst he
      exact (hW4.owns.1 (hE hb ps c) (by simp) rfl).trans (hO.1 (hE hb ps c) (by simp) rfl).symm
end Go.Proofs.Ytbbpmhbeohpmnaa
