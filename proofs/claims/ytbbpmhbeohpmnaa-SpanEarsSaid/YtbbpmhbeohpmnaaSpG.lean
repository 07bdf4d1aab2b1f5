/- The best way, and what each port is to the tree. -/
import Derived.Test.YtbbpmhbeohpmnaaSpF
namespace Go.Proofs.Ytbbpmhbeohpmnaa
open Rx Go.RowKit

noncomputable abbrev b33 : Code := bodyOf Try.f33
def vec0 : Vec := ⟨id0, 0, id0, 0, 0⟩
def vecMe (me : BId) : Vec := ⟨me, 0, me, 0, 0⟩
def meE (b : Nat) (me : BId) : HE := ⟨b, .cells 25 [known me.cells]⟩
def slE (b : Nat) (x : TV) : HE := ⟨b, .cells 75 [.kn [x]]⟩
def vecE (b : Nat) (v : Vec) : HE := ⟨b, .cells 39 [known v.cells]⟩
def countsF (b : Nat) : TV := ⟨.func (.func 44) #[] #[ptr b], .many [.loc 2 0 0]⟩

structure SelB where
  (b0 b1 b2 b3 : Nat)
def mkB (ν : Nat → Nat × Nat) : SelB := ⟨(ν 0).1, (ν 1).1, (ν 2).1, (ν 13).1⟩

def selV (h : Heard) : Vec := { vecAdd h.v h.cost with own := h.port }
def counts (h : Heard) : Bool := cond h.up h.has false
def selTest (me : BId) (best : Vec) (h : Heard) : Bool := cond (cond (counts h) (!idEq (selV h).bridge me) false) (decide (vecCmp (selV h) best < 0)) false
def selStep (me : BId) (st : Vec × Int) (k : Nat) (h : Heard) : Vec × Int := if selTest me st.1 h = true then (selV h, k) else st
def selAt (me : BId) (l : List (Nat × Port)) : Nat → Vec × Int
  | 0 => (vecMe me, -1)
  | k + 1 => match l[k]? with
    | some q => selStep me (selAt me l k) k q.2.h
    | none => selAt me l k

abbrev fr1 (B : SelB) (n : Nat) (root : Int) (k : Int) : Fr := [(2, .val (pv B.b0 1)), (3, .val (pv B.b1 2)), (4, .val (pv B.b2 3)), (8, .val (pv B.b3 4)), (9, .val (sv (i64 root))), (10, .val (countsF B.b1)), (27, .val (sv (i64 n))), (28, .val (sv (i64 k)))]

def outE (b : Nat) (done : List Value) (x : Value) (rest : List Value) : HE := ⟨b, .cells 3 [.op done, .kn [sv x], .op rest]⟩
def outO (b : Nat) (l : List Value) : HE := ⟨b, .cells 3 [.op l]⟩
def outV (b n : Nat) : TV := ⟨.slice (some ⟨b, 0, none⟩) n n, .loc 5 0 0⟩
abbrev fr2 (B : SelB) (ob n : Nat) (root : Int) (k : Int) : Fr := [(2, .val (pv B.b0 1)), (3, .val (pv B.b1 2)), (4, .val (pv B.b2 3)), (8, .val (pv B.b3 4)), (9, .val (sv (i64 root))), (10, .val (countsF B.b1)), (13, .val (outV ob n)), (70, .val (sv (i64 n))), (71, .val (sv (i64 k)))]

def offerV (me : BId) (best : Vec) (port : Int) : Vec := ⟨best.root, best.cost, me, port, 0⟩
def desigT (me : BId) (best : Vec) (h : Heard) : Bool := cond (!counts h) true (decide (vecCmp { h.v with own := 0 } (offerV me best h.port) ≥ 0))
def roleOf (me : BId) (best : Vec) (root : Int) (k : Nat) (h : Heard) : Int :=
  if (!h.up) = true then 0 else if ((k : Int) == root) = true then 1 else if desigT me best h = true then 2 else if idEq h.v.bridge me = true then 4 else 3
def rolesOf (me : BId) (best : Vec) (root : Int) (ps : List (Nat × Port)) : List Int := ps.mapIdx fun k q => roleOf me best root k q.2.h
def selOf (me : BId) (ps : List (Nat × Port)) : Vec × Int := selAt me ps ps.length

theorem outE_key (b : Nat) (done rest : List Value) (x : Value) : (outE b done x rest).key = (outO b (done ++ x :: rest)).key := rfl

theorem fair_small {ps : List (Nat × Port)} (h : fairOf ps = 0) : ps.length ≤ 64 := by
  unfold fairOf at h
  split at h
  · omega
  · omega

theorem int_info : (Try.prog.info? 3).map (fun i => (i.zero, i.size, i.bytes)) = some (some (i64 0), 1, 8) := by kernel_rfl
theorem padZ_int (k : Nat) : padZ (i64 0) k = List.replicate k (i64 0) := by
  apply List.ext_getElem
  · simp [padZ_length, Value.cells]
  · intro i h1 h2
    simp [padZ, Builtin.zeroCells, Value.cells, Nat.mod_one]

theorem select_bad (me : BId) (hb c : Nat) (ps : List (Nat × Port)) (hN : Numbered ps) (hf : fairOf ps ≠ 0) : ReadCall Try.prog [hE hb ps c] 33 [me.val, .slice (some ⟨hb, 0, none⟩) ps.length c]
    (.tuple #[vec0.val, .slice none 0 0, i64 (fairOf ps)]) :=
  read_run fit safe Try.func33 (body := b33) rfl [sv me.val, slH hb ps.length c] [hE hb ps c] 100 [.read [0] (i64 (fairOf ps)), .d true] [true] [fairOf ps != 0] [true]
    (fun _ => [ReadCall Try.prog [hE hb ps c] 43 [.slice (some ⟨hb, 0, none⟩) ps.length c] (i64 (fairOf ps))]) (fun ν => by kernel_rfl) (by simp [hf]) (fun _ => fair_any hb c ps hN)

theorem select_new (me : BId) (hb c : Nat) (ps : List (Nat × Port)) (hN : Numbered ps) (hf : fairOf ps = 0) : NewCall Try.prog [hE hb ps c] 33 [me.val, .slice (some ⟨hb, 0, none⟩) ps.length c]
    (fun b _ => .tuple #[(selOf me ps).1.val, .slice (some ⟨b, 0, none⟩) ps.length ps.length, i64 0]) (fun b _ => (outO b ((rolesOf me (selOf me ps).1 (selOf me ps).2 ps).map i64)).o) := by
  intro w hO
  have hsmall := fair_small hf
  refine calls_pk (ys := [sv me.val, slH hb ps.length c]) Try.func33 (body := b33) rfl fun a hA => ?_
  refine pk_runF (w0 := w) (D := blocksOf [hE hb ps c]) (H := [hE hb ps c]) (F := []) fit safe 100 [.read [0] (i64 0), .d false] [true, true, true, true, true] [2, 3, 4, 8, 9, 10, 27, 28]
    (fun ν => ⟨[false], [false], [ReadCall Try.prog [hE hb ps c] 43 [.slice (some ⟨hb, 0, none⟩) ps.length c] (i64 0)], .stop (kAt b33 [0, 1, 0, 1, 1, 1, 1]) (fr1 (mkB ν) ps.length (-1) (0 : Nat))
      [hE hb ps c, meE (mkB ν).b0 me, slE (mkB ν).b1 (slH hb ps.length c), vecE (mkB ν).b2 vec0, vecE (mkB ν).b3 (vecMe me)]⟩)
    hA (WI.start hO) (fun ν => by kernel_rfl) (fun _ => rfl) (fun _ => hf ▸ fair_any hb c ps hN) (fun ν a w1 hA hW => ?_)
  generalize mkB ν = B at hA hW
  have hkeys : ∀ (k : Nat) (hk : k < ps.length), (hE hb ps c).key = (hF hb (ps.take k) ps[k] (ps.drop (k + 1)) c).key := fun k hk => by
    have := hE_key hb (ps.take k) ps[k] (ps.drop (k + 1)) c
    rwa [← split_at hk] at this
  refine pk_range (b := child 0 (sub b33 [0, 1, 0, 1, 1, 1, 1])) rfl ps.length (fun k a w1 => Agrees 132 (fr1 B ps.length (selAt me ps k).2 (k : Nat)) a ∧
    WI w (blocksOf [hE hb ps c]) [hE hb ps c, meE B.b0 me, slE B.b1 (slH hb ps.length c), vecE B.b2 vec0, vecE B.b3 (selAt me ps k).1] w1) ?_ ?_ 0 a w1 (Nat.zero_le _) ⟨hA, hW⟩
  · rintro k a w1 hk ⟨hA, hW⟩ T hT
    have hkey := hkeys k hk
    have hstep : selAt me ps (k + 1) = selStep me (selAt me ps k) k ps[k].2.h := by simp [selAt, hk]
    have hlp : (ps.take k).length = k := by rw [List.length_take]; omega
    generalize ps.take k = pre at hkey hlp
    generalize ps.drop (k + 1) = post at hkey
    generalize ps[k] = q at hkey hstep
    generalize selAt me ps k = st at hA hW hstep
    obtain ⟨best, root⟩ := st
    have hW1 : WI w (blocksOf [hE hb ps c]) ([hF hb pre q post c, meE B.b0 me, slE B.b1 (slH hb ps.length c), vecE B.b2 vec0, vecE B.b3 best] ++ []) w1 :=
      hW.same (by simp only [List.map_cons, hkey]; rfl)
    have hix : IxOk k ps.length 0 21 (heardL pre).length := by simp [IxOk, heardL_len, hlp]; omega
    have hps : All [IxOk k ps.length 0 21 (heardL pre).length, IxOk k ps.length 0 21 (heardL pre).length, PureCall Try.prog 45 [q.2.h.v.val, i64 q.2.h.cost] (vecAdd q.2.h.v q.2.h.cost).val,
        IxOk k ps.length 0 21 (heardL pre).length, IxOk k ps.length 0 21 (heardL pre).length, (q.2.h.up = true → IxOk k ps.length 0 21 (heardL pre).length),
        (cond (counts q.2.h) (!idEq (selV q.2.h).bridge me) false = true → PureCall Try.prog 39 [(selV q.2.h).val, best.val] (i64 (vecCmp (selV q.2.h) best)))] :=
      ⟨hix, hix, vecAdd_any _ _, hix, hix, fun _ => hix, fun _ => vecCmp_any _ _⟩
    cases ht : selTest me best q.2.h with
    | true =>
      refine pk_runF fit safe 200 [.d true, .ix 1 0, .ix 1 0, .pure (vecAdd q.2.h.v q.2.h.cost).val, .ix 1 0, .inl, .ix 1 0, .ix 1 0, .pure (i64 (vecCmp (selV q.2.h) best)), .d true] [true, true, true, true, true] [2, 3, 4, 8, 9, 10, 27, 28]
        (fun ν => ⟨[decide ((k : Int) < (ps.length : Int)), selTest me best q.2.h], [true, true], _, .stop (.goal T :: kRest b33 [0, 1, 0, 1, 1, 1, 1]) (fr1 B ps.length (k : Int) (wr ((k : Int) + 1)))
          [hF hb pre q post c, meE B.b0 me, slE B.b1 (slH hb ps.length c), vecE B.b2 vec0, vecE B.b3 (selV q.2.h)]⟩)
        hA hW1 (fun ν => by kernel_rfl) (fun _ => by simp [ht]; omega) (fun _ => hps) (fun ν a w2 hA hW2 => ?_)
      rw [wr_nat (by omega)] at hA
      refine hT a w2 ?_
      rw [hstep, selStep, if_pos ht]
      exact ⟨hA, hW2.same (by simp only [List.map_cons, hkey]; rfl)⟩
    | false =>
      refine pk_runF fit safe 200 [.d true, .ix 1 0, .ix 1 0, .pure (vecAdd q.2.h.v q.2.h.cost).val, .ix 1 0, .inl, .ix 1 0, .ix 1 0, .pure (i64 (vecCmp (selV q.2.h) best)), .d false] [true, true, true, true, true] [2, 3, 4, 8, 9, 10, 27, 28]
        (fun ν => ⟨[decide ((k : Int) < (ps.length : Int)), selTest me best q.2.h], [true, false], _, .stop (.goal T :: kRest b33 [0, 1, 0, 1, 1, 1, 1]) (fr1 B ps.length root (wr ((k : Int) + 1)))
          [hF hb pre q post c, meE B.b0 me, slE B.b1 (slH hb ps.length c), vecE B.b2 vec0, vecE B.b3 best]⟩)
        hA hW1 (fun ν => by kernel_rfl) (fun _ => by simp [ht]; omega) (fun _ => hps) (fun ν a w2 hA hW2 => ?_)
      rw [wr_nat (by omega)] at hA
      refine hT a w2 ?_
      rw [hstep, selStep, if_neg (by simp [ht])]
      exact ⟨hA, hW2.same (by simp only [List.map_cons, hkey]; rfl)⟩
  · rintro a w1 ⟨hA, hW⟩ T
    have hsel : selAt me ps ps.length = selOf me ps := rfl
    rw [hsel] at hA hW
    generalize selOf me ps = st at hA hW ⊢
    obtain ⟨best, root⟩ := st
    refine pk_runF (F := []) (H := [hE hb ps c, meE B.b0 me, slE B.b1 (slH hb ps.length c), vecE B.b2 vec0, vecE B.b3 best]) fit safe 100 [.d false, .stop] [true, true, true, true, true] [2, 3, 4, 8, 9, 10, 67]
      (fun ν => ⟨[decide ((ps.length : Int) < (ps.length : Int))], [false], [], .stop (.ops [0, 1, 1, 1, 1, 1] 2 :: kRest b33 [0, 1, 1, 1, 1, 1])
        [(2, .val (pv B.b0 1)), (3, .val (pv B.b1 2)), (4, .val (pv B.b2 3)), (8, .val (pv B.b3 4)), (9, .val (sv (i64 root))), (10, .val (countsF B.b1)), (67, .val (sv (i64 ps.length)))]
        [hE hb ps c, meE B.b0 me, slE B.b1 (slH hb ps.length c), vecE B.b2 vec0, vecE B.b3 best]⟩)
      hA hW (fun ν => by kernel_rfl) (fun _ => by simp) (fun _ => trivial) (fun ν a w2 hA hW2 => ?_)
    refine pk_make (match nth (opsOf (sub b33 [0, 1, 1, 1, 1, 1])) 2 with | some o => o | none => default) (.tmp 67) (.tmp 67) 27 3 (tg := .no) (tg' := .no) (n := ps.length) (by kernel_rfl) (by kernel_rfl) (by kernel_rfl) hA (by rfl) (by rfl)
      (by kernel_rfl) int_info (by kernel_rfl) (by omega) (by omega) (by omega) hW2 (fun ob w3 hW3 => ?_)
    have hsz : ∀ k, padZ (i64 0) k = List.replicate k (i64 0) := padZ_int
    refine pk_runF (F := []) (H := [hE hb ps c, meE B.b0 me, slE B.b1 (slH hb ps.length c), vecE B.b2 vec0, vecE B.b3 best, outO ob (padZ (i64 0) ps.length)]) fit safe 100 [] [true, true, true, true, true, true] [2, 3, 4, 8, 9, 10, 13, 70, 71]
      (fun ν => ⟨[], [], [], .stop (kAt b33 [0, 1, 0, 1, 1, 1, 1, 1, 1]) (fr2 B ob ps.length root (0 : Nat))
        [hE hb ps c, meE B.b0 me, slE B.b1 (slH hb ps.length c), vecE B.b2 vec0, vecE B.b3 best, outO ob (padZ (i64 0) ps.length)]⟩)
      (hA.put (dst := some 68) (se := .val (outV ob ps.length)) (by kernel_rfl) rfl) hW3 (fun ν => by kernel_rfl) (fun _ => rfl) (fun _ => trivial) (fun ν a w4 hA hW4 => ?_)
    rw [hsz] at hW4
    have hrl : (rolesOf me best root ps).length = ps.length := by simp [rolesOf]
    refine pk_range (b := child 0 (sub b33 [0, 1, 0, 1, 1, 1, 1, 1, 1])) rfl ps.length (fun k a w1 => Agrees 132 (fr2 B ob ps.length root (k : Nat)) a ∧
      WI w (blocksOf [hE hb ps c]) [hE hb ps c, meE B.b0 me, slE B.b1 (slH hb ps.length c), vecE B.b2 vec0, vecE B.b3 best, outO ob (((rolesOf me best root ps).take k).map i64 ++ List.replicate (ps.length - k) (i64 0))] w1) ?_ ?_ 0 a w4 (Nat.zero_le _)
      ⟨hA, by simpa using hW4⟩
    · rintro k a w1 hk ⟨hA, hW⟩ T hT
      have hkey := hkeys k hk
      have hlp : (ps.take k).length = k := by rw [List.length_take]; omega
      have hrk : (rolesOf me best root ps).take (k + 1) = (rolesOf me best root ps).take k ++ [roleOf me best root k ps[k].2.h] := by
        rw [List.take_succ_eq_append_getElem (by rw [hrl]; exact hk)]
        simp [rolesOf]
      have hrep : List.replicate (ps.length - k) (i64 0) = i64 0 :: List.replicate (ps.length - (k + 1)) (i64 0) := by
        rw [show ps.length - k = (ps.length - (k + 1)) + 1 by omega, List.replicate_succ]
      have hdl : (((rolesOf me best root ps).take k).map i64).length = k := by rw [List.length_map, List.length_take, hrl]; omega
      rw [hrep] at hW
      generalize ps.take k = pre at hkey hlp
      generalize ps.drop (k + 1) = post at hkey
      generalize ps[k] = q at hkey hrk
      generalize hdone : ((rolesOf me best root ps).take k).map i64 = done at hW hdl
      generalize hrest : List.replicate (ps.length - (k + 1)) (i64 0) = rest at hW
      have hW1 : WI w (blocksOf [hE hb ps c]) ([hF hb pre q post c, meE B.b0 me, slE B.b1 (slH hb ps.length c), vecE B.b2 vec0, vecE B.b3 best, outE ob done (i64 0) rest] ++ []) w1 :=
        hW.same (by simp only [List.map_cons, hkey]; rfl)
      have hix : IxOk k ps.length 0 21 (heardL pre).length := by simp [IxOk, heardL_len, hlp]; omega
      have hixo : IxOk k ps.length 0 1 done.length := by simp [IxOk, hdl]; omega
      have hend : ∀ (a : Act) (w' : World), Agrees 132 (fr2 B ob ps.length root (wr ((k : Int) + 1))) a →
          WI w (blocksOf [hE hb ps c]) ([hF hb pre q post c, meE B.b0 me, slE B.b1 (slH hb ps.length c), vecE B.b2 vec0, vecE B.b3 best, outE ob done (i64 (roleOf me best root k q.2.h)) rest] ++ []) w' → T a w' := by
        intro a w' hA hW'
        rw [wr_nat (by omega)] at hA
        refine hT a w' ⟨hA, hW'.same ?_⟩
        have e1 : ((rolesOf me best root ps).take (k + 1)).map i64 = done ++ [i64 (roleOf me best root k q.2.h)] := by rw [hrk, List.map_append, hdone]; rfl
        rw [e1, hrest]
        simp only [List.map_cons, List.map_nil, hkey, outE_key, List.append_assoc, List.cons_append, List.nil_append]
      cases hup : q.2.h.up with
      | false =>
        refine pk_runF fit safe 200 [.d true, .ix 1 0, .ix 1 0, .d true, .ix 1 0] [true, true, true, true, true, true] [2, 3, 4, 8, 9, 10, 13, 70, 71]
          (fun ν => ⟨[decide ((k : Int) < (ps.length : Int)), !q.2.h.up], [true, true], [IxOk k ps.length 0 21 (heardL pre).length, IxOk k ps.length 0 21 (heardL pre).length, IxOk k ps.length 0 1 done.length],
            .stop (.goal T :: kRest b33 [0, 1, 0, 1, 1, 1, 1, 1, 1]) (fr2 B ob ps.length root (wr ((k : Int) + 1)))
            [hF hb pre q post c, meE B.b0 me, slE B.b1 (slH hb ps.length c), vecE B.b2 vec0, vecE B.b3 best, outE ob done (i64 0) rest]⟩)
          hA hW1 (fun ν => by kernel_rfl) (fun _ => by simp [hup]; omega) (fun _ => ⟨hix, hix, hixo⟩) (fun ν a w2 hA hW2 => hend a w2 hA ?_)
        have hr : roleOf me best root k q.2.h = 0 := by simp [roleOf, hup]
        rw [hr]; exact hW2
      | true =>
        cases hroot : ((k : Int) == root) with
        | true =>
          refine pk_runF fit safe 200 [.d true, .ix 1 0, .ix 1 0, .d false, .d true, .ix 1 0] [true, true, true, true, true, true] [2, 3, 4, 8, 9, 10, 13, 70, 71]
            (fun ν => ⟨[decide ((k : Int) < (ps.length : Int)), !q.2.h.up, ((k : Int) == root)], [true, false, true], [IxOk k ps.length 0 21 (heardL pre).length, IxOk k ps.length 0 21 (heardL pre).length, IxOk k ps.length 0 1 done.length],
              .stop (.goal T :: kRest b33 [0, 1, 0, 1, 1, 1, 1, 1, 1]) (fr2 B ob ps.length root (wr ((k : Int) + 1)))
              [hF hb pre q post c, meE B.b0 me, slE B.b1 (slH hb ps.length c), vecE B.b2 vec0, vecE B.b3 best, outE ob done (i64 1) rest]⟩)
            hA hW1 (fun ν => by kernel_rfl) (fun _ => by simp [hup, hroot]; omega) (fun _ => ⟨hix, hix, hixo⟩) (fun ν a w2 hA hW2 => hend a w2 hA ?_)
          have hr : roleOf me best root k q.2.h = 1 := by simp [roleOf, hup, hroot]
          rw [hr]; exact hW2
        | false =>
          have hps : All [IxOk k ps.length 0 21 (heardL pre).length, IxOk k ps.length 0 21 (heardL pre).length, IxOk k ps.length 0 21 (heardL pre).length, (q.2.h.up = true → IxOk k ps.length 0 21 (heardL pre).length),
              ((!!counts q.2.h) = true → IxOk k ps.length 0 21 (heardL pre).length), ((!!counts q.2.h) = true → PureCall Try.prog 46 [me.val, best.val, i64 q.2.h.port] (offerV me best q.2.h.port).val),
              ((!!counts q.2.h) = true → PureCall Try.prog 39 [Vec.val { q.2.h.v with own := 0 }, (offerV me best q.2.h.port).val] (i64 (vecCmp { q.2.h.v with own := 0 } (offerV me best q.2.h.port)))), IxOk k ps.length 0 1 done.length] :=
            ⟨hix, hix, hix, fun _ => hix, fun _ => hix, fun _ => offer _ _ _, fun _ => vecCmp_any _ _, hixo⟩
          cases hd : desigT me best q.2.h with
          | true =>
            refine pk_runF fit safe 200 [.d true, .ix 1 0, .ix 1 0, .d false, .d false, .inl, .ix 1 0, .ix 1 0, .ix 1 0, .pure (offerV me best q.2.h.port).val, .pure (i64 (vecCmp { q.2.h.v with own := 0 } (offerV me best q.2.h.port))), .d true, .ix 1 0] [true, true, true, true, true, true] [2, 3, 4, 8, 9, 10, 13, 70, 71]
              (fun ν => ⟨[decide ((k : Int) < (ps.length : Int)), !q.2.h.up, ((k : Int) == root), desigT me best q.2.h], [true, false, false, true], _,
                .stop (.goal T :: kRest b33 [0, 1, 0, 1, 1, 1, 1, 1, 1]) (fr2 B ob ps.length root (wr ((k : Int) + 1)))
                [hF hb pre q post c, meE B.b0 me, slE B.b1 (slH hb ps.length c), vecE B.b2 vec0, vecE B.b3 best, outE ob done (i64 2) rest]⟩)
              hA hW1 (fun ν => by kernel_rfl) (fun _ => by simp [hup, hroot, hd]; omega) (fun _ => hps) (fun ν a w2 hA hW2 => hend a w2 hA ?_)
            have hr : roleOf me best root k q.2.h = 2 := by simp [roleOf, hup, hroot, hd]
            rw [hr]; exact hW2
          | false =>
            cases hbr : idEq q.2.h.v.bridge me with
            | true =>
              refine pk_runF fit safe 200 [.d true, .ix 1 0, .ix 1 0, .d false, .d false, .inl, .ix 1 0, .ix 1 0, .ix 1 0, .pure (offerV me best q.2.h.port).val, .pure (i64 (vecCmp { q.2.h.v with own := 0 } (offerV me best q.2.h.port))), .d false, .d true, .ix 1 0] [true, true, true, true, true, true] [2, 3, 4, 8, 9, 10, 13, 70, 71]
                (fun ν => ⟨[decide ((k : Int) < (ps.length : Int)), !q.2.h.up, ((k : Int) == root), desigT me best q.2.h, idEq q.2.h.v.bridge me], [true, false, false, false, true], _,
                  .stop (.goal T :: kRest b33 [0, 1, 0, 1, 1, 1, 1, 1, 1]) (fr2 B ob ps.length root (wr ((k : Int) + 1)))
                  [hF hb pre q post c, meE B.b0 me, slE B.b1 (slH hb ps.length c), vecE B.b2 vec0, vecE B.b3 best, outE ob done (i64 4) rest]⟩)
                hA hW1 (fun ν => by kernel_rfl) (fun _ => by simp [hup, hroot, hd, hbr]; omega) (fun _ => hps) (fun ν a w2 hA hW2 => hend a w2 hA ?_)
              have hr : roleOf me best root k q.2.h = 4 := by simp [roleOf, hup, hroot, hd, hbr]
              rw [hr]; exact hW2
            | false =>
              refine pk_runF fit safe 200 [.d true, .ix 1 0, .ix 1 0, .d false, .d false, .inl, .ix 1 0, .ix 1 0, .ix 1 0, .pure (offerV me best q.2.h.port).val, .pure (i64 (vecCmp { q.2.h.v with own := 0 } (offerV me best q.2.h.port))), .d false, .d false, .ix 1 0] [true, true, true, true, true, true] [2, 3, 4, 8, 9, 10, 13, 70, 71]
                (fun ν => ⟨[decide ((k : Int) < (ps.length : Int)), !q.2.h.up, ((k : Int) == root), desigT me best q.2.h, idEq q.2.h.v.bridge me], [true, false, false, false, false], _,
                  .stop (.goal T :: kRest b33 [0, 1, 0, 1, 1, 1, 1, 1, 1]) (fr2 B ob ps.length root (wr ((k : Int) + 1)))
                  [hF hb pre q post c, meE B.b0 me, slE B.b1 (slH hb ps.length c), vecE B.b2 vec0, vecE B.b3 best, outE ob done (i64 3) rest]⟩)
                hA hW1 (fun ν => by kernel_rfl) (fun _ => by simp [hup, hroot, hd, hbr]; omega) (fun _ => hps) (fun ν a w2 hA hW2 => hend a w2 hA ?_)
              have hr : roleOf me best root k q.2.h = 3 := by simp [roleOf, hup, hroot, hd, hbr]
              rw [hr]; exact hW2
    · rintro a w1 ⟨hA, hW⟩ T
      have htk : (rolesOf me best root ps).take ps.length = rolesOf me best root ps := by rw [← hrl, List.take_length]
      rw [htk, Nat.sub_self, List.replicate_zero, List.append_nil] at hW
      refine pk_runF (F := []) (H := [hE hb ps c, meE B.b0 me, slE B.b1 (slH hb ps.length c), vecE B.b2 vec0, vecE B.b3 best, outO ob ((rolesOf me best root ps).map i64)]) fit safe 100 [.d false] [true, false, false, false, false, true] []
        (fun ν => ⟨[decide ((ps.length : Int) < (ps.length : Int))], [false], [], .ret (.tuple #[best.val, .slice (some ⟨ob, 0, none⟩) ps.length ps.length, i64 0]) (facts [hE hb ps c, outO ob ((rolesOf me best root ps).map i64)])⟩)
        hA hW (fun ν => by kernel_rfl) (fun _ => by simp) (fun _ => trivial) (fun ν w2 hW2 => ?_)
      have hW3 := hW2 _ rfl
      have hnew : w.heap.size ≤ ob := by
        rcases hW3.near ob (by simp [outO, hE, blocksOf]) with h' | h'
        · exfalso
          have := hW3.owns.2
          simp only [outO, hE, blocksOf, List.append_nil, List.nodup_cons, List.mem_singleton] at this h'
          exact this.1 h'.symm
        · exact h'
      refine ⟨ob, 0, rfl, hnew, hW3.owns.1 (outO ob ((rolesOf me best root ps).map i64)) (by simp) rfl, below_of (H := [hE hb ps c]) hW3.toFar fun e he => ?_⟩
      simp only [List.mem_singleton] at he
      subst he
      exact (hW3.owns.1 (hE hb ps c) (by simp) rfl).trans (hO.1 (hE hb ps c) (by simp) rfl).symm
end Go.Proofs.Ytbbpmhbeohpmnaa
