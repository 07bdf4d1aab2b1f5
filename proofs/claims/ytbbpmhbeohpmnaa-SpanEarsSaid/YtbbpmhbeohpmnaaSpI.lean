/- All is reckoned anew. -/
import Derived.Test.YtbbpmhbeohpmnaaSpH
namespace Go.Proofs.Ytbbpmhbeohpmnaa
open Rx Go.RowKit

noncomputable abbrev b21 : Code := bodyOf Try.f23

def rk1 (p : Port) (r : Int) : Port := if (p.role != r) = true then { p with role := r, agreed := false, reply := false } else { p with role := r }
def freshB (p : Port) (r : Int) : Bool := cond (r == 2) (p.role != 2) false
def rkStep (S : Sp) (n j : Nat) (p : Port) (r now : Int) : Sp × Port :=
  if (r == 1) = true then (fwdS S (rk1 p r) n j now, fwdP (rk1 p r))
  else if cond (freshB p r) p.edge false = true then (fwdS S (rk1 p r) n j now, fwdP (rk1 p r))
  else if freshB p r = true then (S, { rk1 p r with state := 0, on := wr (now + 15) })
  else if (r != 2) = true then (S, { rk1 p r with state := 0 })
  else (S, rk1 p r)
def rkAt (S : Sp) (ps : List (Nat × Port)) (roles : List Int) (now : Int) : Nat → Sp × List (Nat × Port)
  | 0 => (S, [])
  | k + 1 => match ps[k]?, roles[k]? with
    | some q, some r => ((rkStep (rkAt S ps roles now k).1 ps.length k q.2 r now).1, (rkAt S ps roles now k).2 ++ [(q.1, (rkStep (rkAt S ps roles now k).1 ps.length k q.2 r now).2)])
    | _, _ => rkAt S ps roles now k
def selB (S : Sp) (ps : List (Nat × Port)) : Vec := (selOf S.me ps).1
def selR (S : Sp) (ps : List (Nat × Port)) : List Int := rolesOf S.me (selOf S.me ps).1 (selOf S.me ps).2 ps
def withBest (S : Sp) (v : Vec) : Sp := { S with best := v }
def reckonOf (S : Sp) (ps : List (Nat × Port)) (now : Int) : Sp × List (Nat × Port) := rkAt (withBest S (selB S ps)) ps (selR S ps) now ps.length

def outF (b : Nat) (pre : List Int) (r : Int) (post : List Int) : HE := ⟨b, .cells 3 [.op (pre.map i64), .kn [sv (i64 r)], .op (post.map i64)]⟩
theorem outF_key (b : Nat) (pre post : List Int) (r : Int) : (outO b ((pre ++ r :: post).map i64)).key = (outF b pre r post).key := by
  simp only [outO, outF, HE.key, HO.obj, HO.full, flat, Chunk.vals, valsOf, sv, List.map_append, List.map_cons, List.cons_append, List.nil_append]

abbrev frR (S : Sp) (ob n pos : Nat) (now k : Int) : Fr := [(0, .val (pv S.b 0)), (1, .val (sv (i64 now))), (5, .val ⟨.slice (some ⟨ob, 0, none⟩) n n, .loc pos 0 0⟩), (29, .val (spV S n 1)), (30, .val (sv (i64 n))), (31, .val (sv (i64 k)))]
def hNews (S : Sp) (ps : List (Nat × Port)) : List Hint :=
  [.newC [0] (fun b c => .slice (some ⟨b, 0, none⟩) ps.length c) (fun pos => .loc pos 0 0) (fun _b c => .cells 56 [.op (heardL ps ++ padZ heard0.val (c - ps.length))]),
   .new [1] (fun b _ => .tuple #[(selB S ps).val, .slice (some ⟨b, 0, none⟩) ps.length ps.length, i64 0]) (fun pos => .many [.no, .loc pos 0 0, .no]) (fun b _ => (outO b ((selR S ps).map i64)).o)]

theorem ch_same (S : Sp) (n j : Nat) (now : Int) : (changedS S n j now).b = S.b ∧ (changedS S n j now).ab = S.ab ∧ (changedS S n j now).cap = S.cap := ⟨rfl, rfl, rfl⟩
theorem step_same (S : Sp) (n j : Nat) (p : Port) (r now : Int) : (rkStep S n j p r now).1.b = S.b ∧ (rkStep S n j p r now).1.ab = S.ab ∧ (rkStep S n j p r now).1.cap = S.cap := by
  unfold rkStep fwdS
  repeat' split
  all_goals exact ⟨rfl, rfl, rfl⟩
theorem rk_same (S : Sp) (ps : List (Nat × Port)) (roles : List Int) (now : Int) : ∀ k, (rkAt S ps roles now k).1.b = S.b ∧ (rkAt S ps roles now k).1.ab = S.ab ∧ (rkAt S ps roles now k).1.cap = S.cap
  | 0 => ⟨rfl, rfl, rfl⟩
  | k + 1 => by
    have ih := rk_same S ps roles now k
    simp only [rkAt]
    split
    · rename_i q r _ _
      obtain ⟨a, b, c⟩ := step_same (rkAt S ps roles now k).1 ps.length k q.2 r now
      exact ⟨a.trans ih.1, b.trans ih.2.1, c.trans ih.2.2⟩
    · exact ih
theorem rk_len (S : Sp) (ps : List (Nat × Port)) (roles : List Int) (now : Int) (h : roles.length = ps.length) : ∀ k, k ≤ ps.length → (rkAt S ps roles now k).2.length = k
  | 0, _ => rfl
  | k + 1, hk => by
    have ih := rk_len S ps roles now h k (by omega)
    have h1 : k < ps.length := by omega
    have h2 : k < roles.length := by omega
    simp [rkAt, h1, h2, ih]

theorem reckon_turn (S : Sp) (ps : List (Nat × Port)) (h0 : 0 < ps.length) (hN : Numbered ps) (hf : fairOf ps = 0) (now : Int) :
    Turns Try.prog (memS S ps) 23 [ptr S.b, i64 now] unit (memS (reckonOf S ps now).1 (reckonOf S ps now).2) := by
  intro w hO
  have h64 := fair_small hf
  refine calls_pk (ys := [pv S.b 0, sv (i64 now)]) Try.func23 (body := b21) rfl fun a hA => ?_
  have hO' : Owns w ([spE S ps.length 1] ++ (arrE S ps :: mapE S :: ps.map portE)) := hO
  refine pk_runFC (w0 := w) (D := blocksOf (memS S ps)) fit safe (Beside [spE S ps.length 1] (arrE S ps :: mapE S :: ps.map portE)) 100 (hNews S ps) [true, false, true] [0, 1, 5, 29, 30, 31]
    (fun ν => ⟨[], [], [NewCallC Try.prog (Beside [spE S ps.length 1] (arrE S ps :: mapE S :: ps.map portE)) [spE S ps.length 1] 34 [ptr S.b] (fun b c => .slice (some ⟨b, 0, none⟩) ps.length c) (fun b c => .cells 56 [.op (heardL ps ++ padZ heard0.val (c - ps.length))]),
        NewCall Try.prog [hE (ν 5).1 ps (ν 5).2] 33 [S.me.val, .slice (some ⟨(ν 5).1, 0, none⟩) ps.length (ν 5).2] (fun b _ => .tuple #[(selB S ps).val, .slice (some ⟨b, 0, none⟩) ps.length ps.length, i64 0]) (fun b _ => (outO b ((selR S ps).map i64)).o)],
      .stop (kAt b21 [0, 1, 1, 1]) (frR S (ν 6).1 ps.length 2 now (0 : Nat)) [spE (withBest S (selB S ps)) ps.length 1, outO (ν 6).1 ((selR S ps).map i64)]⟩)
    hA (H := [spE S ps.length 1]) (F := arrE S ps :: mapE S :: ps.map portE) (WI.start hO) (fun w' hfar => frame_far hO' hfar) (fun ν => by kernel_rfl) (fun _ => rfl)
    (fun ν => ⟨NewCall.beside (heards_new S ps (by omega) h0), select_new S.me (ν 5).1 (ν 5).2 ps hN hf⟩) (fun ν a w1 hA hW => ?_)
  generalize (ν 6).1 = ob at hA hW
  have hrl : (selR S ps).length = ps.length := by simp [selR, rolesOf]
  have hSb : ∀ k, (rkAt (withBest S (selB S ps)) ps (selR S ps) now k).1.b = S.b ∧ (rkAt (withBest S (selB S ps)) ps (selR S ps) now k).1.ab = S.ab ∧ (rkAt (withBest S (selB S ps)) ps (selR S ps) now k).1.cap = S.cap := rk_same _ _ _ _
  have hpl : ∀ k, k ≤ ps.length → (rkAt (withBest S (selB S ps)) ps (selR S ps) now k).2.length = k := rk_len _ _ _ _ hrl
  have hW0 : WI w (blocksOf (memS S ps)) (outO ob ((selR S ps).map i64) :: memS (withBest S (selB S ps)) ps) w1 := by
    refine hW.like ?_
    refine perm_of_cnt fun x => ?_
    simp only [memS, List.map_append, List.map_cons, List.map_nil, cnt_append, cnt_cons, cnt_nil]
    show _ = cnt1 x (outO ob ((selR S ps).map i64)).key + (cnt1 x (spE (withBest S (selB S ps)) ps.length 1).key + (cnt1 x (arrE S ps).key + (cnt1 x (mapE S).key + _)))
    omega
  clear hW
  unfold reckonOf
  generalize selR S ps = roles at hW0 hrl hSb hpl ⊢
  generalize hS1 : withBest S (selB S ps) = S1 at hW0 hSb hpl ⊢
  have hS1b : S1.b = S.b ∧ S1.ab = S.ab ∧ S1.cap = S.cap := hSb 0
  refine pk_range (b := child 0 (sub b21 [0, 1, 1, 1])) rfl ps.length (fun k a w1 => Agrees 100 (frR S ob ps.length 2 now (k : Nat)) a ∧
    WI w (blocksOf (memS S ps)) (outO ob (roles.map i64) :: memS (rkAt S1 ps roles now k).1 ((rkAt S1 ps roles now k).2 ++ ps.drop k)) w1) ?_ ?_ 0 a w1 (Nat.zero_le _) ⟨hA, by simpa [rkAt] using hW0⟩
  · rintro k a w1 hk ⟨hA, hW⟩ T hT
    have hkr : k < roles.length := by omega
    have hd := List.drop_eq_getElem_cons hk
    have hsr := split_at hkr
    have hrp : (roles.take k).length = k := by rw [List.length_take]; omega
    have hstep : rkAt S1 ps roles now (k + 1) = ((rkStep (rkAt S1 ps roles now k).1 ps.length k ps[k].2 roles[k] now).1, (rkAt S1 ps roles now k).2 ++ [(ps[k].1, (rkStep (rkAt S1 ps roles now k).1 ps.length k ps[k].2 roles[k] now).2)]) := by
      simp [rkAt, hk, hkr]
    have hpk := hpl k (by omega)
    obtain ⟨hb1, hb2, hb3⟩ := hSb k
    rw [hd] at hW
    generalize rkAt S1 ps roles now k = st at hW hstep hpk hb1 hb2 hb3
    obtain ⟨Sk, pk⟩ := st
    simp only at hW hstep hpk hb1 hb2 hb3
    have hpost : (ps.drop (k + 1)).length + 1 + k = ps.length := by rw [List.length_drop]; omega
    generalize ps.drop (k + 1) = post at hW hpost hT hstep
    generalize ps[k] = q at hW hstep
    generalize hr : roles[k] = r at hstep hsr
    generalize roles.take k = rpre at hsr hrp
    generalize roles.drop (k + 1) = rpost at hsr
    have hn : pk.length + (post.length + 1) = ps.length := by omega
    have hfr : ∀ pos x, frR S ob ps.length pos now x = frR Sk ob ps.length pos now x := fun pos x => by simp only [frR, pv, spV, hb1, hb2, hb3]
    have hkey : (outO ob (roles.map i64)).key = (outF ob rpre r rpost).key := by rw [hsr]; exact outF_key ob rpre rpost r
    have hW1 : WI w (blocksOf (memS S ps)) ([spE Sk ps.length 1, arrF Sk pk q post 3, mapE Sk, portE q, outF ob rpre r rpost] ++ (pk ++ post).map portE) w1 := by
      refine hW.like ?_
      have := focus_n Sk pk q post 1 3 ps.length hn
      refine perm_of_cnt fun x => ?_
      have := cnt_of_perm this x
      simp only [List.map_append, List.map_cons, List.map_nil, cnt_append, cnt_cons, cnt_nil, hkey] at this ⊢
      omega
    have hback : ∀ (S' : Sp) (p' : Port) (w' : World), WI w (blocksOf (memS S ps)) ([spE S' ps.length 1, arrF S' pk q post 3, mapE S', portE (q.1, p'), outF ob rpre r rpost] ++ (pk ++ post).map portE) w' →
        WI w (blocksOf (memS S ps)) (outO ob (roles.map i64) :: memS S' (pk ++ (q.1, p') :: post)) w' := by
      intro S' p' w' h
      refine h.like ?_
      have := (focus_n S' pk (q.1, p') post 1 3 ps.length hn).symm
      refine perm_of_cnt fun x => ?_
      have := cnt_of_perm this x
      have e : (arrF S' pk (q.1, p') post 3) = (arrF S' pk q post 3) := rfl
      simp only [List.map_append, List.map_cons, List.map_nil, cnt_append, cnt_cons, cnt_nil, hkey, e] at this ⊢
      omega
    have hix1 : IxOk k ps.length 0 1 (ptrs pk).length := by simp [IxOk, ptrs, hpk]; omega
    have hix2 : IxOk k ps.length 0 1 (rpre.map i64).length := by simp [IxOk, hrp]; omega
    replace hA := hA.like (fr' := frR Sk ob ps.length 4 now k) (by rw [hfr]; rfl)
    have hend : ∀ (a : Act) (w' : World) (S' : Sp) (p' : Port), rkStep Sk ps.length k q.2 r now = (S', p') → Agrees 100 (frR Sk ob ps.length 4 now (wr ((k : Int) + 1))) a →
        WI w (blocksOf (memS S ps)) (outO ob (roles.map i64) :: memS S' (pk ++ (q.1, p') :: post)) w' → T a w' := by
      intro a w' S' p' hs hA hW'
      rw [wr_nat (by omega)] at hA
      refine hT a w' ⟨hA.like (by rw [hfr]; rfl), ?_⟩
      rw [hstep, hs]
      simpa using hW'
    have hfw : ∀ (a : Act) (w' : World), rkStep Sk ps.length k q.2 r now = (fwdS Sk (rk1 q.2 r) ps.length k now, fwdP (rk1 q.2 r)) →
        Agrees 100 (frR Sk ob ps.length 4 now k ++ [(81, .val (pv Sk.b 0)), (82, .val (pv q.1 3)), (83, .val (sv (i64 now)))]) a →
        WI w (blocksOf (memS S ps)) ([spE Sk ps.length 1, arrF Sk pk q post 3, mapE Sk, portE (q.1, rk1 q.2 r), outF ob rpre r rpost] ++ (pk ++ post).map portE) w' →
        PK Try.prog Try.f23 (fun e w' => e = Ending.returned unit ∧ WI w (blocksOf (memS S ps)) (memS (rkAt S1 ps roles now ps.length).1 (rkAt S1 ps roles now ps.length).2) w') b21
          (.ops [0, 1, 0, 1, 1, 1, 1, 0, 0, 1, 1, 0, 0, 1, 1, 1] 3 :: (kIn b21 [0, 1, 1, 1] [0, 1, 0, 1, 1, 1, 1, 0, 0, 1, 1, 0, 0, 1, 1, 1] ++ .goal T :: kRest b21 [0, 1, 1, 1])) .normal a w' := by
      intro a w' hs hA hW'
      have hW2 := hback Sk (rk1 q.2 r) w' hW'
      have hf := forwards_at Sk pk (q.1, rk1 q.2 r) post ps.length hn h64 now
      rw [hpk] at hf
      refine pk_turn fit hf (F := [outO ob (roles.map i64)]) (match nth (opsOf (sub b21 [0, 1, 0, 1, 1, 1, 1, 0, 0, 1, 1, 0, 0, 1, 1, 1])) 3 with | some o => o | none => default) (.func 25) #[.tmp 81, .tmp 82, .tmp 83]
        (match (match nth (opsOf (sub b21 [0, 1, 0, 1, 1, 1, 1, 0, 0, 1, 1, 0, 0, 1, 1, 1])) 3 with | some o => o | none => default).op with | .call c => c.argTypes | _ => #[]) #[] #[] .no [pv Sk.b 0, pv q.1 3, sv (i64 now)]
        (by kernel_rfl) (by kernel_rfl) (by kernel_rfl) hA (by rfl) (by rfl) Try.func25 (b' := b25) rfl (by rfl) (hW2.append_comm (A := [outO ob (roles.map i64)])) (fun w3 hW4 => ?_)
      refine pk_runF (H := []) fit safe 100 [] [] [0, 1, 5, 29, 30, 31]
        (fun ν => ⟨[], [], [], .stop (.goal T :: kRest b21 [0, 1, 1, 1]) (frR Sk ob ps.length 4 now (wr ((k : Int) + 1))) []⟩)
        (hA.put (dst := some 84) (se := .junk) (v := unit) (by kernel_rfl) trivial) hW4 (fun ν => by kernel_rfl) (fun _ => rfl) (fun _ => trivial) (fun ν a w5 hA hW5 => ?_)
      exact hend a w5 _ _ hs hA (show WI w (blocksOf (memS S ps)) (memS _ _ ++ [outO ob (roles.map i64)]) w5 from hW5).append_comm
    cases hw : (q.2.role != r) with
    | true =>
      have e1 : rk1 q.2 r = { q.2 with role := r, agreed := false, reply := false } := by simp only [rk1, hw]; rfl
      cases h1 : (r == 1) with
      | true =>
        refine pk_runF fit safe 200 [.d true, .ix 1 0, .ix 1 0, .d true, .d true, .d true, .stop] [true, true, true, true, true] [0, 1, 5, 29, 30, 31, 81, 82, 83]
                    (fun ν => ⟨[decide ((k : Int) < (ps.length : Int)), (q.2.role != r), (r == 1), (r == 1)], [true, true, true, true], [IxOk k ps.length 0 1 (ptrs pk).length, IxOk k ps.length 0 1 (rpre.map i64).length], .stop (.ops [0, 1, 0, 1, 1, 1, 1, 0, 0, 1, 1, 0, 0, 1, 1, 1] 3 :: (kIn b21 [0, 1, 1, 1] [0, 1, 0, 1, 1, 1, 1, 0, 0, 1, 1, 0, 0, 1, 1, 1] ++ .goal T :: kRest b21 [0, 1, 1, 1]))
                      (frR Sk ob ps.length 4 now k ++ [(81, .val (pv Sk.b 0)), (82, .val (pv q.1 3)), (83, .val (sv (i64 now)))]) [spE Sk ps.length 1, arrF Sk pk q post 3, mapE Sk, portE (q.1, { q.2 with role := r, agreed := false, reply := false }), outF ob rpre r rpost]⟩)
                    hA hW1 (fun ν => by kernel_rfl) (fun _ => by simp [hw, h1]; omega) (fun _ => ⟨hix1, hix2⟩) (fun ν a w2 hA hW2 => hfw a w2 (by rw [rkStep, if_pos h1]) hA (by rw [e1]; exact hW2))
      | false =>
        cases h2 : cond (freshB q.2 r) q.2.edge false with
        | true =>
          refine pk_runF fit safe 200 [.d true, .ix 1 0, .ix 1 0, .d true, .d false, .d true, .stop] [true, true, true, true, true] [0, 1, 5, 29, 30, 31, 81, 82, 83]
                    (fun ν => ⟨[decide ((k : Int) < (ps.length : Int)), (q.2.role != r), (r == 1), cond (freshB q.2 r) q.2.edge false], [true, true, false, true], [IxOk k ps.length 0 1 (ptrs pk).length, IxOk k ps.length 0 1 (rpre.map i64).length], .stop (.ops [0, 1, 0, 1, 1, 1, 1, 0, 0, 1, 1, 0, 0, 1, 1, 1] 3 :: (kIn b21 [0, 1, 1, 1] [0, 1, 0, 1, 1, 1, 1, 0, 0, 1, 1, 0, 0, 1, 1, 1] ++ .goal T :: kRest b21 [0, 1, 1, 1]))
                      (frR Sk ob ps.length 4 now k ++ [(81, .val (pv Sk.b 0)), (82, .val (pv q.1 3)), (83, .val (sv (i64 now)))]) [spE Sk ps.length 1, arrF Sk pk q post 3, mapE Sk, portE (q.1, { q.2 with role := r, agreed := false, reply := false }), outF ob rpre r rpost]⟩)
                    hA hW1 (fun ν => by kernel_rfl) (fun _ => by simp only [hw, h1, h2, decide_eq_true (show (k : Int) < (ps.length : Int) by omega)]) (fun _ => ⟨hix1, hix2⟩) (fun ν a w2 hA hW2 => hfw a w2 (by rw [rkStep, if_neg (by simp [h1]), if_pos h2]) hA (by rw [e1]; exact hW2))
        | false =>
          cases h3 : freshB q.2 r with
          | true =>
            rw [h3] at h2
            refine pk_runF fit safe 200 [.d true, .ix 1 0, .ix 1 0, .d true, .d false, .d false, .d true, .inl] [true, true, true, true, true] [0, 1, 5, 29, 30, 31]
                    (fun ν => ⟨[decide ((k : Int) < (ps.length : Int)), (q.2.role != r), (r == 1), cond (freshB q.2 r) q.2.edge false, freshB q.2 r], [true, true, false, false, true], [IxOk k ps.length 0 1 (ptrs pk).length, IxOk k ps.length 0 1 (rpre.map i64).length], .stop (.goal T :: kRest b21 [0, 1, 1, 1]) (frR Sk ob ps.length 4 now (wr ((k : Int) + 1))) [spE Sk ps.length 1, arrF Sk pk q post 3, mapE Sk, portE (q.1, { { q.2 with role := r, agreed := false, reply := false } with state := 0, on := wr (now + 15) }), outF ob rpre r rpost]⟩)
                    hA hW1 (fun ν => by kernel_rfl) (fun _ => by simp only [hw, h1, h3, h2, decide_eq_true (show (k : Int) < (ps.length : Int) by omega)]) (fun _ => ⟨hix1, hix2⟩) (fun ν a w2 hA hW2 => hend a w2 _ _ (by rw [rkStep, if_neg (by simp [h1]), h3, if_neg (by simp [h2]), if_pos rfl]) hA (hback _ _ w2 (by rw [e1]; exact hW2)))
          | false =>
            cases h4 : (r != 2) with
            | true =>
              refine pk_runF fit safe 200 [.d true, .ix 1 0, .ix 1 0, .d true, .d false, .d false, .d false, .d true] [true, true, true, true, true] [0, 1, 5, 29, 30, 31]
                    (fun ν => ⟨[decide ((k : Int) < (ps.length : Int)), (q.2.role != r), (r == 1), cond (freshB q.2 r) q.2.edge false, freshB q.2 r, (r != 2)], [true, true, false, false, false, true], [IxOk k ps.length 0 1 (ptrs pk).length, IxOk k ps.length 0 1 (rpre.map i64).length], .stop (.goal T :: kRest b21 [0, 1, 1, 1]) (frR Sk ob ps.length 4 now (wr ((k : Int) + 1))) [spE Sk ps.length 1, arrF Sk pk q post 3, mapE Sk, portE (q.1, { { q.2 with role := r, agreed := false, reply := false } with state := 0 }), outF ob rpre r rpost]⟩)
                    hA hW1 (fun ν => by kernel_rfl) (fun _ => by simp only [hw, h1, h3, h4, cond_false, decide_eq_true (show (k : Int) < (ps.length : Int) by omega)]) (fun _ => ⟨hix1, hix2⟩) (fun ν a w2 hA hW2 => hend a w2 _ _ (by rw [rkStep, if_neg (by simp [h1]), h3, if_neg (by simp), if_neg (by simp), if_pos h4]) hA (hback _ _ w2 (by rw [e1]; exact hW2)))
            | false =>
              refine pk_runF fit safe 200 [.d true, .ix 1 0, .ix 1 0, .d true, .d false, .d false, .d false, .d false] [true, true, true, true, true] [0, 1, 5, 29, 30, 31]
                    (fun ν => ⟨[decide ((k : Int) < (ps.length : Int)), (q.2.role != r), (r == 1), cond (freshB q.2 r) q.2.edge false, freshB q.2 r, (r != 2)], [true, true, false, false, false, false], [IxOk k ps.length 0 1 (ptrs pk).length, IxOk k ps.length 0 1 (rpre.map i64).length], .stop (.goal T :: kRest b21 [0, 1, 1, 1]) (frR Sk ob ps.length 4 now (wr ((k : Int) + 1))) [spE Sk ps.length 1, arrF Sk pk q post 3, mapE Sk, portE (q.1, { q.2 with role := r, agreed := false, reply := false }), outF ob rpre r rpost]⟩)
                    hA hW1 (fun ν => by kernel_rfl) (fun _ => by simp only [hw, h1, h3, h4, cond_false, decide_eq_true (show (k : Int) < (ps.length : Int) by omega)]) (fun _ => ⟨hix1, hix2⟩) (fun ν a w2 hA hW2 => hend a w2 _ _ (by rw [rkStep, if_neg (by simp [h1]), h3, if_neg (by simp), if_neg (by simp), if_neg (by simp [h4])]) hA (hback _ _ w2 (by rw [e1]; exact hW2)))
    | false =>
      have e1 : rk1 q.2 r = { q.2 with role := r } := by simp only [rk1, hw]; rfl
      cases h1 : (r == 1) with
      | true =>
        refine pk_runF fit safe 200 [.d true, .ix 1 0, .ix 1 0, .d false, .d true, .d true, .stop] [true, true, true, true, true] [0, 1, 5, 29, 30, 31, 81, 82, 83]
                    (fun ν => ⟨[decide ((k : Int) < (ps.length : Int)), (q.2.role != r), (r == 1), (r == 1)], [true, false, true, true], [IxOk k ps.length 0 1 (ptrs pk).length, IxOk k ps.length 0 1 (rpre.map i64).length], .stop (.ops [0, 1, 0, 1, 1, 1, 1, 0, 0, 1, 1, 0, 0, 1, 1, 1] 3 :: (kIn b21 [0, 1, 1, 1] [0, 1, 0, 1, 1, 1, 1, 0, 0, 1, 1, 0, 0, 1, 1, 1] ++ .goal T :: kRest b21 [0, 1, 1, 1]))
                      (frR Sk ob ps.length 4 now k ++ [(81, .val (pv Sk.b 0)), (82, .val (pv q.1 3)), (83, .val (sv (i64 now)))]) [spE Sk ps.length 1, arrF Sk pk q post 3, mapE Sk, portE (q.1, { q.2 with role := r }), outF ob rpre r rpost]⟩)
                    hA hW1 (fun ν => by kernel_rfl) (fun _ => by simp [hw, h1]; omega) (fun _ => ⟨hix1, hix2⟩) (fun ν a w2 hA hW2 => hfw a w2 (by rw [rkStep, if_pos h1]) hA (by rw [e1]; exact hW2))
      | false =>
        cases h2 : cond (freshB q.2 r) q.2.edge false with
        | true =>
          refine pk_runF fit safe 200 [.d true, .ix 1 0, .ix 1 0, .d false, .d false, .d true, .stop] [true, true, true, true, true] [0, 1, 5, 29, 30, 31, 81, 82, 83]
                    (fun ν => ⟨[decide ((k : Int) < (ps.length : Int)), (q.2.role != r), (r == 1), cond (freshB q.2 r) q.2.edge false], [true, false, false, true], [IxOk k ps.length 0 1 (ptrs pk).length, IxOk k ps.length 0 1 (rpre.map i64).length], .stop (.ops [0, 1, 0, 1, 1, 1, 1, 0, 0, 1, 1, 0, 0, 1, 1, 1] 3 :: (kIn b21 [0, 1, 1, 1] [0, 1, 0, 1, 1, 1, 1, 0, 0, 1, 1, 0, 0, 1, 1, 1] ++ .goal T :: kRest b21 [0, 1, 1, 1]))
                      (frR Sk ob ps.length 4 now k ++ [(81, .val (pv Sk.b 0)), (82, .val (pv q.1 3)), (83, .val (sv (i64 now)))]) [spE Sk ps.length 1, arrF Sk pk q post 3, mapE Sk, portE (q.1, { q.2 with role := r }), outF ob rpre r rpost]⟩)
                    hA hW1 (fun ν => by kernel_rfl) (fun _ => by simp only [hw, h1, h2, decide_eq_true (show (k : Int) < (ps.length : Int) by omega)]) (fun _ => ⟨hix1, hix2⟩) (fun ν a w2 hA hW2 => hfw a w2 (by rw [rkStep, if_neg (by simp [h1]), if_pos h2]) hA (by rw [e1]; exact hW2))
        | false =>
          cases h3 : freshB q.2 r with
          | true =>
            rw [h3] at h2
            refine pk_runF fit safe 200 [.d true, .ix 1 0, .ix 1 0, .d false, .d false, .d false, .d true, .inl] [true, true, true, true, true] [0, 1, 5, 29, 30, 31]
                    (fun ν => ⟨[decide ((k : Int) < (ps.length : Int)), (q.2.role != r), (r == 1), cond (freshB q.2 r) q.2.edge false, freshB q.2 r], [true, false, false, false, true], [IxOk k ps.length 0 1 (ptrs pk).length, IxOk k ps.length 0 1 (rpre.map i64).length], .stop (.goal T :: kRest b21 [0, 1, 1, 1]) (frR Sk ob ps.length 4 now (wr ((k : Int) + 1))) [spE Sk ps.length 1, arrF Sk pk q post 3, mapE Sk, portE (q.1, { { q.2 with role := r } with state := 0, on := wr (now + 15) }), outF ob rpre r rpost]⟩)
                    hA hW1 (fun ν => by kernel_rfl) (fun _ => by simp only [hw, h1, h3, h2, decide_eq_true (show (k : Int) < (ps.length : Int) by omega)]) (fun _ => ⟨hix1, hix2⟩) (fun ν a w2 hA hW2 => hend a w2 _ _ (by rw [rkStep, if_neg (by simp [h1]), h3, if_neg (by simp [h2]), if_pos rfl]) hA (hback _ _ w2 (by rw [e1]; exact hW2)))
          | false =>
            cases h4 : (r != 2) with
            | true =>
              refine pk_runF fit safe 200 [.d true, .ix 1 0, .ix 1 0, .d false, .d false, .d false, .d false, .d true] [true, true, true, true, true] [0, 1, 5, 29, 30, 31]
                    (fun ν => ⟨[decide ((k : Int) < (ps.length : Int)), (q.2.role != r), (r == 1), cond (freshB q.2 r) q.2.edge false, freshB q.2 r, (r != 2)], [true, false, false, false, false, true], [IxOk k ps.length 0 1 (ptrs pk).length, IxOk k ps.length 0 1 (rpre.map i64).length], .stop (.goal T :: kRest b21 [0, 1, 1, 1]) (frR Sk ob ps.length 4 now (wr ((k : Int) + 1))) [spE Sk ps.length 1, arrF Sk pk q post 3, mapE Sk, portE (q.1, { { q.2 with role := r } with state := 0 }), outF ob rpre r rpost]⟩)
                    hA hW1 (fun ν => by kernel_rfl) (fun _ => by simp only [hw, h1, h3, h4, cond_false, decide_eq_true (show (k : Int) < (ps.length : Int) by omega)]) (fun _ => ⟨hix1, hix2⟩) (fun ν a w2 hA hW2 => hend a w2 _ _ (by rw [rkStep, if_neg (by simp [h1]), h3, if_neg (by simp), if_neg (by simp), if_pos h4]) hA (hback _ _ w2 (by rw [e1]; exact hW2)))
            | false =>
              refine pk_runF fit safe 200 [.d true, .ix 1 0, .ix 1 0, .d false, .d false, .d false, .d false, .d false] [true, true, true, true, true] [0, 1, 5, 29, 30, 31]
                    (fun ν => ⟨[decide ((k : Int) < (ps.length : Int)), (q.2.role != r), (r == 1), cond (freshB q.2 r) q.2.edge false, freshB q.2 r, (r != 2)], [true, false, false, false, false, false], [IxOk k ps.length 0 1 (ptrs pk).length, IxOk k ps.length 0 1 (rpre.map i64).length], .stop (.goal T :: kRest b21 [0, 1, 1, 1]) (frR Sk ob ps.length 4 now (wr ((k : Int) + 1))) [spE Sk ps.length 1, arrF Sk pk q post 3, mapE Sk, portE (q.1, { q.2 with role := r }), outF ob rpre r rpost]⟩)
                    hA hW1 (fun ν => by kernel_rfl) (fun _ => by simp only [hw, h1, h3, h4, cond_false, decide_eq_true (show (k : Int) < (ps.length : Int) by omega)]) (fun _ => ⟨hix1, hix2⟩) (fun ν a w2 hA hW2 => hend a w2 _ _ (by rw [rkStep, if_neg (by simp [h1]), h3, if_neg (by simp), if_neg (by simp), if_neg (by simp [h4])]) hA (hback _ _ w2 (by rw [e1]; exact hW2)))
  · rintro a w1 ⟨hA, hW⟩ T
    rw [List.drop_length, List.append_nil] at hW
    refine pk_runF (H := []) fit safe 100 [.d false] [] []
      (fun ν => ⟨[decide ((ps.length : Int) < (ps.length : Int))], [false], [], .ret unit []⟩)
      hA hW (fun ν => by kernel_rfl) (fun _ => by simp) (fun _ => trivial) (fun ν w2 hW2 => ?_)
    exact ⟨rfl, (show WI w (blocksOf (memS S ps)) (outO ob (roles.map i64) :: memS _ _) w2 from hW2 [] rfl).sub (List.sublist_cons_self _ _)⟩
end Go.Proofs.Ytbbpmhbeohpmnaa
