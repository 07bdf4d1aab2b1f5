/- A bridge in memory; what all its ports have heard. -/
import Derived.Test.YtbbpmhbeohpmnaaSpD
namespace Go.Proofs.Ytbbpmhbeohpmnaa
open Rx Go.RowKit

structure Sp where
  (b ab mb cap : Nat) (me : BId) (best : Vec) (change last : Int) (keys : List (Int × Nat)) (clock : Nat)

def Sp.chunk (S : Sp) (n pos : Nat) : Chunk := .kn (S.me.cells.map sv ++ ⟨.slice (some ⟨S.ab, 0, none⟩) n S.cap, .loc pos 0 0⟩ :: (S.best.cells.map sv ++ [sv (i64 S.change), sv (i64 S.last), sv (.map (some S.mb))]))
def spE (S : Sp) (n pos : Nat) : HE := ⟨S.b, .cells 65 [S.chunk n pos]⟩
def ptrs (ps : List (Nat × Port)) : List Value := ps.map fun q => ptr q.1
def nilP : Value := .pointer none
def arrE (S : Sp) (ps : List (Nat × Port)) : HE := ⟨S.ab, .cells 51 [.op (ptrs ps ++ padZ nilP (S.cap - ps.length))]⟩
def mapE (S : Sp) : HE := ⟨S.mb, .other (mObj S.keys S.clock)⟩
def memS (S : Sp) (ps : List (Nat × Port)) : List HE := spE S ps.length 1 :: arrE S ps :: mapE S :: ps.map portE

/-- The array, one pointer in sight. -/
def arrF (S : Sp) (pre : List (Nat × Port)) (q : Nat × Port) (post : List (Nat × Port)) (pos : Nat) : HE :=
  ⟨S.ab, .cells 51 [.op (ptrs pre), .kn [⟨ptr q.1, .loc pos 0 0⟩], .op (ptrs post ++ padZ nilP (S.cap - (pre.length + (post.length + 1))))]⟩

theorem mem_focus (S : Sp) (pre : List (Nat × Port)) (q : Nat × Port) (post : List (Nat × Port)) (p1 p2 : Nat) :
    ((memS S (pre ++ q :: post)).map HE.key).Perm (([spE S (pre ++ q :: post).length p1, arrF S pre q post p2, mapE S, portE q] ++ (pre ++ post).map portE).map HE.key) := by
  have e1 : (spE S (pre ++ q :: post).length 1).key = (spE S (pre ++ q :: post).length p1).key := by
    simp only [spE, HE.key, HO.obj, HO.full, flat, Chunk.vals, Sp.chunk, valsOf_eq, List.map_append, List.map_cons]
  have e2 : (arrE S (pre ++ q :: post)).key = (arrF S pre q post p2).key := by
    simp only [arrE, arrF, HE.key, HO.obj, HO.full, flat, Chunk.vals, ptrs, valsOf_eq, List.map_append, List.map_cons, List.map_nil, List.length_append, List.length_cons, List.append_assoc, List.cons_append, List.nil_append]
  simp only [memS, List.map_cons, List.cons_append, List.nil_append, e1, e2, List.map_append]
  refine List.Perm.cons _ (List.Perm.cons _ (List.Perm.cons _ ?_))
  exact List.perm_middle

/-! ### what all ports have heard -/
noncomputable abbrev b34 : Code := bodyOf Try.f34
def mac0v : Value := .agg #[.int .u8 0, .int .u8 0, .int .u8 0, .int .u8 0, .int .u8 0, .int .u8 0]
def heard0 : Heard := ⟨0, 0, false, false, ⟨⟨0, mac0⟩, 0, ⟨0, mac0⟩, 0, 0⟩⟩
def Heard.val (h : Heard) : Value := .agg h.cells.toArray
def heardL (ps : List (Nat × Port)) : List Value := ps.flatMap fun q => q.2.h.cells

theorem heard_len (h : Heard) : h.cells.length = 21 := rfl
theorem heardL_len : ∀ ps, (heardL ps).length = ps.length * 21
  | [] => rfl
  | q :: r => by
    have := heardL_len r
    simp only [heardL, List.flatMap_cons, List.length_append, heard_len, List.length_cons] at this ⊢
    omega

theorem heard_info : (Try.prog.info? 56).map (fun i => (i.zero, i.size, i.bytes)) = some (some heard0.val, 21, 80) := by kernel_rfl

def spV (S : Sp) (n pos : Nat) : TV := ⟨.slice (some ⟨S.ab, 0, none⟩) n S.cap, .loc pos 0 0⟩

theorem split_at {α : Type} {l : List α} {k : Nat} (h : k < l.length) : l = l.take k ++ l[k] :: l.drop (k + 1) := by
  rw [← List.drop_eq_getElem_cons h, List.take_append_drop]

theorem heardL_append (a b : List (Nat × Port)) : heardL (a ++ b) = heardL a ++ heardL b := by simp [heardL]

abbrev frH (S : Sp) (n : Nat) (v : Value) (k : Int) : Fr := [(0, .val (pv S.b 0)), (3, .val (sv v)), (9, .val (spV S n 1)), (10, .val (sv (i64 n))), (11, .val (sv (i64 k)))]

theorem heards_new (S : Sp) (ps : List (Nat × Port)) (hn : ps.length < 2 ^ 40) (h0 : 0 < ps.length) :
    NewCall Try.prog (memS S ps) 34 [ptr S.b] (fun b c => .slice (some ⟨b, 0, none⟩) ps.length c)
      (fun _b c => .cells 56 [.op (heardL ps ++ padZ heard0.val (c - ps.length))]) := by
  intro w hO
  refine calls_pk (ys := [pv S.b 0]) Try.func34 (body := b34) rfl fun a hA => ?_
  refine pk_runF (w0 := w) (D := blocksOf (memS S ps)) fit safe 100 [] [true] [0, 3, 9, 10, 11]
    (fun _ => ⟨[], [], [], .stop (kAt b34 [0, 1, 0, 1, 1]) (frH S ps.length (rowV none 0) (0 : Nat)) [spE S ps.length 1]⟩)
    hA (H := [spE S ps.length 1]) (F := arrE S ps :: mapE S :: ps.map portE) (WI.start hO) (fun ν => by kernel_rfl) (fun _ => rfl) (fun _ => trivial) (fun ν a w1 hA hW => ?_)
  have hlen : ∀ k, k ≤ ps.length → (heardL (ps.take k)).length = k * 21 := fun k hk => by rw [heardL_len, List.length_take, Nat.min_eq_left hk]
  refine pk_range (b := child 0 (sub b34 [0, 1, 0, 1, 1])) rfl ps.length (fun k a w1 => ∃ r, rowOk r k ∧ Agrees 24 (frH S ps.length (rowV r k) (k : Nat)) a ∧
    WI w (blocksOf (memS S ps)) (rowH 56 heard0.val (heardL (ps.take k)) k r ++ memS S ps) w1) ?_ ?_ 0 a w1 (Nat.zero_le _) ⟨none, rfl, hA, by simpa [rowH, memS] using hW⟩
  · rintro k a w1 hk ⟨r, hr, hA, hW⟩ T hT
    have hs := split_at hk
    have hps : ps.take (k + 1) = ps.take k ++ [ps[k]] := by rw [List.take_succ_eq_append_getElem hk]
    generalize hq : ps[k] = q at hs hps
    generalize hpre : ps.take k = pre at hs hps hW
    generalize hpost : ps.drop (k + 1) = post at hs
    have hlp : pre.length = k := by rw [← hpre, List.length_take]; omega
    have hfoc := mem_focus S pre q post 1 3
    rw [← hs] at hfoc
    have hW1 : WI w (blocksOf (memS S ps)) ([spE S ps.length 1, arrF S pre q post 3, mapE S, portE q] ++ ((pre ++ post).map portE ++ rowH 56 heard0.val (heardL pre) k r)) w1 := by
      refine hW.like ?_
      rw [List.map_append, ← List.append_assoc, List.map_append]
      exact List.perm_append_comm.trans (hfoc.append_right _)
    refine pk_runF fit safe 100 [.d true, .ix 1 0, .stop] [true, true, true, true, true] [0, 3, 9, 10, 11, 15, 20]
      (fun ν => ⟨[decide ((k : Int) < (ps.length : Int))], [true], [IxOk k ps.length 0 1 (ptrs pre).length], .stop (.ops [1, 0, 0, 1, 1, 0, 0, 1, 0, 1, 1] 6 :: (kIn b34 [0, 1, 0, 1, 1] [1, 0, 0, 1, 1, 0, 0, 1, 0, 1, 1] ++ .goal T :: kRest b34 [0, 1, 0, 1, 1]))
        (frH S ps.length (rowV r k) k ++ [(15, .val (sv (rowV r k))), (20, .val ⟨.slice (some ⟨(ν 9).1, 0, none⟩) 1 1, .loc 4 0 0⟩)])
        [spE S ps.length 1, arrF S pre q post 3, mapE S, portE q, ⟨(ν 9).1, .cells 56 [known q.2.h.cells]⟩]⟩)
      hA hW1 (fun ν => by kernel_rfl) (fun _ => by simpa using hk) (fun _ => by simp [All, IxOk, ptrs, hlp]; omega) (fun ν a w2 hA hW2 => ?_)
    have hnb : w2.heap[(ν 9).1]? = some (.cells q.2.h.cells.toArray 56 (0, 0)) :=
      hW2.owns.1 ⟨(ν 9).1, .cells 56 [known q.2.h.cells]⟩ (by simp) rfl
    have hW3 : WI w (blocksOf (memS S ps)) (rowH 56 heard0.val (heardL pre) k r ++ (memS S ps ++ [⟨(ν 9).1, .cells 56 [known q.2.h.cells]⟩])) w2 := by
      refine hW2.like ?_
      refine perm_of_cnt fun x => ?_
      have := cnt_of_perm hfoc x
      simp only [List.map_append, List.map_cons, List.map_nil, cnt_append, cnt_cons, cnt_nil] at this ⊢
      omega
    refine pk_append (match nth (opsOf (sub b34 [1, 0, 0, 1, 1, 0, 0, 1, 0, 1, 1])) 6 with | some o => o | none => default) (.tmp 15) (.tmp 20) 75 56 (by kernel_rfl) (by kernel_rfl) (by kernel_rfl) hA
      (tg := .no) (tg' := .loc 4 0 0) (by rfl) (by rfl) (by kernel_rfl) heard_info (by kernel_rfl) hr (by rw [heardL_len, hlp]) hW3 (by omega) (by rw [heard_len]) hnb (one_of (by kernel_rfl)) (by simp only [maxLen]; omega) (by omega) (fun b' c' w3 hr' hW4 => ?_)
    refine pk_runF (H := []) fit safe 100 [] [] [0, 3, 9, 10, 11]
      (fun ν => ⟨[], [], [], .stop (.goal T :: kRest b34 [0, 1, 0, 1, 1]) (frH S ps.length (.slice (some ⟨b', 0, none⟩) (k + 1) c') (wr ((k : Int) + 1))) []⟩)
      (hA.put (dst := some 21) (se := .val (sv (.slice (some ⟨b', 0, none⟩) (k + 1) c'))) (by kernel_rfl) rfl) hW4 (fun ν => by kernel_rfl) (fun _ => rfl) (fun _ => trivial) (fun ν a w4 hA hW5 => ?_)
    refine hT a w4 ⟨some (b', c'), hr', ?_, hW5.sub ?_⟩
    · rw [wr_nat (by omega)] at hA
      exact hA
    · rw [hps, heardL_append]
      have : heardL [q] = q.2.h.cells := by simp [heardL]
      rw [this]
      simp only [List.nil_append]
      exact List.sublist_append_left _ _
  · rintro a w1 ⟨r, hr, hA, hW⟩ T
    cases r with
    | none => simp only [rowOk] at hr; omega
    | some bc =>
      obtain ⟨b', c'⟩ := bc
      rw [List.take_length] at hW
      refine pk_runF (H := []) fit safe 100 [.d false] [] []
        (fun ν => ⟨[decide ((ps.length : Int) < (ps.length : Int))], [false], [], .ret (.slice (some ⟨b', 0, none⟩) ps.length c') []⟩)
        hA hW (fun ν => by kernel_rfl) (fun _ => by simp) (fun _ => trivial) (fun ν w2 hW2 => ?_)
      have hW3 := hW2 [] rfl
      simp only [List.nil_append] at hW3
      have hnew : w.heap.size ≤ b' := by
        rcases hW3.near b' (by simp [blocksOf]) with h' | h'
        · exfalso
          have := hW3.owns.2
          simp only [blocksOf, List.nodup_cons] at this
          exact this.1 h'
        · exact h'
      refine ⟨b', c', rfl, hnew, ?_, below_of (H := memS S ps) hW3.toFar fun e he => ?_⟩
      · exact hW3.owns.1 ⟨b', .cells 56 [.op (heardL ps ++ padZ heard0.val (c' - ps.length))]⟩ (by simp) rfl
      · have hf : e.o.full = true := by
          simp only [memS, List.mem_cons, List.mem_map] at he
          rcases he with rfl | rfl | rfl | ⟨q, _, rfl⟩ <;> rfl
        rw [hW3.owns.1 e (List.mem_cons_of_mem _ he) hf, hO.1 e he hf]
end Go.Proofs.Ytbbpmhbeohpmnaa
