/- Two bridges hear one another. -/
import Derived.Test.YtbbpmhbeohpmnaaSpU
namespace Go.Proofs.Ytbbpmhbeohpmnaa
open Rx Go.RowKit

noncomputable abbrev bMt : Code := bodyOf Try.f13

def hearAt (S : Sp) (L : List (Nat × Port)) (l : List Spk) (now : Int) : Nat → Sp × List (Nat × Port)
  | 0 => (S, L)
  | i + 1 => match l[i]? with
    | some s => takeL (hearAt S L l now i).1 (hearAt S L l now i).2 (s.port - 1).toNat s.b now
    | none => hearAt S L l now i
def okB (L : List (Nat × Port)) (s : Spk) : Bool := decide (1 ≤ s.port) && (match L[(s.port - 1).toNat]? with
  | some q => q.2.h.up && (rightB s.b && decide (s.b.kind ≠ 128))
  | none => false)
def okAll (S : Sp) (L : List (Nat × Port)) (l : List Spk) (now : Int) : Bool := (List.range l.length).all fun i => match l[i]? with
  | some s => okB (hearAt S L l now i).2 s
  | none => true
theorem okB_of {L : List (Nat × Port)} {s : Spk} (h : okB L s = true) : 1 ≤ s.port ∧ ∃ q, L[(s.port - 1).toNat]? = some q ∧ q.2.h.up = true ∧ rightB s.b = true ∧ s.b.kind ≠ 128 := by
  unfold okB at h
  rw [Bool.and_eq_true, decide_eq_true_eq] at h
  refine ⟨h.1, ?_⟩
  have h2 := h.2
  split at h2
  · rename_i q hq
    simp only [Bool.and_eq_true, decide_eq_true_eq] at h2
    exact ⟨q, hq, h2.1, h2.2.1, h2.2.2⟩
  · simp at h2
theorem hearAt_ok (S : Sp) (L : List (Nat × Port)) (l : List Spk) (now : Int) : ∀ i, hdr (hearAt S L l now i).2 = hdr L ∧ (hearAt S L l now i).1.b = S.b ∧ (hearAt S L l now i).2.map (·.1) = L.map (·.1)
  | 0 => ⟨rfl, rfl, rfl⟩
  | i + 1 => by
    have ih := hearAt_ok S L l now i
    simp only [hearAt]
    split
    · rename_i s hs
      have := takeL_ok (hearAt S L l now i).1 (hearAt S L l now i).2 (s.port - 1).toNat s.b now
      exact ⟨this.1.trans ih.1, this.2.1.trans ih.2.1, this.2.2.trans ih.2.2⟩
    · exact ih

theorem spkL_at : ∀ {l : List Spk} {k : Nat} {s : Spk} {j : Nat} {y : Value}, l[k]? = some s → s.cells[j]? = some y → (spkL l)[k * 23 + j]? = some y
  | [], k, s, j, y, h, _ => by simp at h
  | a :: l, 0, s, j, y, h, hy => by
    simp only [List.getElem?_cons_zero, Option.some.injEq] at h
    subst h
    simp only [spkL, List.flatMap_cons, Nat.zero_mul, Nat.zero_add]
    rw [List.getElem?_append_left]
    · exact hy
    · rcases Nat.lt_or_ge j a.cells.length with h | h
      · exact h
      · rw [List.getElem?_eq_none h] at hy; simp at hy
  | a :: l, k + 1, s, j, y, h, hy => by
    simp only [List.getElem?_cons_succ] at h
    have := spkL_at h hy
    simp only [spkL, List.flatMap_cons]
    have hl : a.cells.length = 23 := rfl
    rw [List.getElem?_append_right (by omega), hl, show (k + 1) * 23 + j - 23 = k * 23 + j by omega]
    exact this

abbrev frMt (ab bb : Nat) (now : Int) (vx vy : Value) : Fr := [(0, .val (sv (ptr ab))), (1, .val (sv (ptr bb))), (2, .val (sv (i64 0))), (3, .val (sv (i64 3))), (9, .val (sv (i64 now))), (10, .val (sv vx)), (12, .val (sv vy))]

theorem hear_loop1 {R : Ending → World → Prop} {w : World} {D : List Nat} (F0 : List HE) (S : Sp) (L : List (Nat × Port)) (out : List Spk) (ab bb : Nat) (hb : bb = S.b) (now : Int) (vx vy : Value) (hv : SliceOf F0 vx 23 out.length (spkL out))
    (hf : Fair L) (hm : momentB now = true) (hlen : out.length ≤ 100) (hok : okAll S L out now = true) (K : List It)
    (hend : ∀ a w2 T, Agrees 80 (frMt ab bb now vx vy ++ [(14, .val (sv (i64 (out.length : Nat))))]) a → WI w D (F0 ++ memS (hearAt S L out now out.length).1 (hearAt S L out now out.length).2) w2 → PK Try.prog Try.f13 R bMt (.c (0 :: [0, 1, 0, 1, 1, 1, 0, 0, 1, 0, 0, 1, 0, 1]) :: .goal T :: K) .normal a w2)
    {a : Act} {w1 : World} (hA : Agrees 80 (frMt ab bb now vx vy ++ [(14, .val (sv (i64 (0 : Nat))))]) a) (hW : WI w D (F0 ++ memS S L) w1) :
    PK Try.prog Try.f13 R bMt (.c [0, 1, 0, 1, 1, 1, 0, 0, 1, 0, 0, 1, 0, 1] :: K) .normal a w1 := by
  refine pk_range (b := child 0 (sub bMt [0, 1, 0, 1, 1, 1, 0, 0, 1, 0, 0, 1, 0, 1])) rfl out.length (fun k a w1 => Agrees 80 (frMt ab bb now vx vy ++ [(14, .val (sv (i64 (k : Nat))))]) a ∧ WI w D (F0 ++ memS (hearAt S L out now k).1 (hearAt S L out now k).2) w1) ?_ ?_ 0 a w1 (Nat.zero_le _) ⟨hA, hW⟩
  · rintro k a w1 hk ⟨hA, hW⟩ T hT
    obtain ⟨s, hs⟩ : ∃ s, out[k]? = some s := ⟨out[k], by simp [hk]⟩
    have hst : hearAt S L out now (k + 1) = takeL (hearAt S L out now k).1 (hearAt S L out now k).2 (s.port - 1).toNat s.b now := by simp only [hearAt, hs]
    have hoks : okB (hearAt S L out now k).2 s = true := by
      have := List.all_eq_true.1 hok k (by simpa using hk)
      simpa only [hs] using this
    obtain ⟨g1, g2, g3⟩ := hearAt_ok S L out now k
    have hfk : Fair (hearAt S L out now k).2 := hf.of g1
    obtain ⟨hp1, q, hq, hup, hr, hkd⟩ := okB_of hoks
    have hct := take_c (hearAt S L out now k).1 (hearAt S L out now k).2 hfk (s.port - 1).toNat hq hup s.b hr hkd now hm
    rw [← hst, show (((s.port - 1).toNat : Nat) : Int) + 1 = s.port by omega, g2, ← hb] at hct
    have hcF : TurnC Try.prog (F0 ++ memS (hearAt S L out now k).1 (hearAt S L out now k).2) 6 [ptr bb, i64 s.port, s.b.val, i64 now] (fun _ => i64 0) (fun _ => F0 ++ memS (hearAt S L out now (k + 1)).1 (hearAt S L out now (k + 1)).2) :=
      (hct.c.frame F0).alike (perm_of_cnt fun y => by simp only [keysF_append, cnt_append]; omega) (fun _ => perm_of_cnt fun y => by simp only [keysF_append, cnt_append]; omega)
    generalize hM : hearAt S L out now k = M at hW hcF
    generalize hearAt S L out now (k + 1) = M' at hcF hT
    have hZ : ∀ w, Beside [] (F0 ++ memS M.1 M.2) w → Owns w F0 := fun w h => h.1.sub_left
    have hln : ReadOp Try.prog (Beside [] (F0 ++ memS M.1 M.2)) [] (opK bMt (0 :: 0 :: 0 :: [0, 1, 0, 1, 1, 1, 0, 0, 1, 0, 0, 1, 0, 1]) 2) [vx] (i64 out.length) := hv.len (P := Try.prog) (e := 72) rfl (by kernel_rfl)
    have hix1 : ReadOp Try.prog (Beside [] (F0 ++ memS M.1 M.2)) [] (opK bMt [0, 0, 1, 0, 0, 1, 0, 1, 1, 1, 0, 0, 1, 0, 0, 1, 0, 1] 3) [vx, i64 k] (.pointer (some (cellAt vx (k * 23)))) := hv.index (P := Try.prog) (e := 72) rfl (by kernel_rfl) (by kernel_rfl) hk
    have hix2 : ReadOp Try.prog (Beside [] (F0 ++ memS M.1 M.2)) [] (opK bMt [0, 0, 1, 0, 0, 1, 0, 1, 1, 1, 0, 0, 1, 0, 0, 1, 0, 1] 8) [vx, i64 k] (.pointer (some (cellAt vx (k * 23)))) := hv.index (P := Try.prog) (e := 72) rfl (by kernel_rfl) (by kernel_rfl) hk
    have hl1 : ReadOp Try.prog (Beside [] (F0 ++ memS M.1 M.2)) [] (opK bMt [0, 0, 1, 0, 0, 1, 0, 1, 1, 1, 0, 0, 1, 0, 0, 1, 0, 1] 5) [.pointer (some ⟨(cellAt vx (k * 23)).block, (cellAt vx (k * 23)).off + 0, none⟩)] (i64 s.port) := hv.load (P := Try.prog) hZ rfl (by kernel_rfl) (spkL_at hs rfl)
    have hl2 : ReadOp Try.prog (Beside [] (F0 ++ memS M.1 M.2)) [] (opK bMt [0, 0, 1, 0, 0, 1, 0, 1, 1, 1, 0, 0, 1, 0, 0, 1, 0, 1] 10) [.pointer (some ⟨(cellAt vx (k * 23)).block, (cellAt vx (k * 23)).off + 1, none⟩)] s.b.val :=
      hv.loads (P := Try.prog) (ys := s.b.cells) hZ rfl (by kernel_rfl) (by kernel_rfl) (fun i y hi => by rw [Nat.add_assoc]; exact spkL_at hs (by rw [Nat.add_comm]; exact hi)) (by omega)
    refine pk_run2 (H := []) fit safe 200 [.rd [] (i64 out.length) .no, .d true, .rd [] (.pointer (some (cellAt vx (k * 23)))) .no, .rd [] (i64 s.port) .no, .rd [] (.pointer (some (cellAt vx (k * 23)))) .no, .rd [] s.b.val .no, .stop]
      [.run, callF (fun _ => i64 0) (fun _ => F0 ++ memS M'.1 M'.2)] [] [0, 1, 2, 3, 9, 10, 12, 14]
      (fun ν => ⟨[decide ((k : Int) < (out.length : Int))], [true], [_, _, _, _, _, _], .stop (.goal T :: K) (frMt ab bb now vx vy ++ [(14, .val (sv (i64 (wr ((k : Int) + 1)))))]) [] (F0 ++ memS M'.1 M'.2)⟩)
      hA hW (fun ν => by kernel_rfl) (fun _ => by simpa using hk) (fun _ => ⟨hln, hix1, hl1, hix2, hl2, hcF⟩) (fun ν a w2 hA hW2 => ?_)
    rw [wr_nat (by omega)] at hA
    exact hT a w2 ⟨hA, hW2⟩
  · rintro a w1 ⟨hA, hW⟩ T
    exact hend a w1 T hA hW
theorem hear_loop2 {R : Ending → World → Prop} {w : World} {D : List Nat} (F0 : List HE) (S : Sp) (L : List (Nat × Port)) (out : List Spk) (ab bb : Nat) (hb : ab = S.b) (now : Int) (vx vy : Value) (hv : SliceOf F0 vy 23 out.length (spkL out))
    (hf : Fair L) (hm : momentB now = true) (hlen : out.length ≤ 100) (hok : okAll S L out now = true) (K : List It)
    (hend : ∀ a w2 T, Agrees 80 (frMt ab bb now vx vy ++ [(15, .val (sv (i64 (out.length : Nat))))]) a → WI w D (F0 ++ memS (hearAt S L out now out.length).1 (hearAt S L out now out.length).2) w2 → PK Try.prog Try.f13 R bMt (.c (0 :: [0, 1, 1, 1, 1, 1, 0, 0, 1, 0, 0, 1, 0, 1]) :: .goal T :: K) .normal a w2)
    {a : Act} {w1 : World} (hA : Agrees 80 (frMt ab bb now vx vy ++ [(15, .val (sv (i64 (0 : Nat))))]) a) (hW : WI w D (F0 ++ memS S L) w1) :
    PK Try.prog Try.f13 R bMt (.c [0, 1, 1, 1, 1, 1, 0, 0, 1, 0, 0, 1, 0, 1] :: K) .normal a w1 := by
  refine pk_range (b := child 0 (sub bMt [0, 1, 1, 1, 1, 1, 0, 0, 1, 0, 0, 1, 0, 1])) rfl out.length (fun k a w1 => Agrees 80 (frMt ab bb now vx vy ++ [(15, .val (sv (i64 (k : Nat))))]) a ∧ WI w D (F0 ++ memS (hearAt S L out now k).1 (hearAt S L out now k).2) w1) ?_ ?_ 0 a w1 (Nat.zero_le _) ⟨hA, hW⟩
  · rintro k a w1 hk ⟨hA, hW⟩ T hT
    obtain ⟨s, hs⟩ : ∃ s, out[k]? = some s := ⟨out[k], by simp [hk]⟩
    have hst : hearAt S L out now (k + 1) = takeL (hearAt S L out now k).1 (hearAt S L out now k).2 (s.port - 1).toNat s.b now := by simp only [hearAt, hs]
    have hoks : okB (hearAt S L out now k).2 s = true := by
      have := List.all_eq_true.1 hok k (by simpa using hk)
      simpa only [hs] using this
    obtain ⟨g1, g2, g3⟩ := hearAt_ok S L out now k
    have hfk : Fair (hearAt S L out now k).2 := hf.of g1
    obtain ⟨hp1, q, hq, hup, hr, hkd⟩ := okB_of hoks
    have hct := take_c (hearAt S L out now k).1 (hearAt S L out now k).2 hfk (s.port - 1).toNat hq hup s.b hr hkd now hm
    rw [← hst, show (((s.port - 1).toNat : Nat) : Int) + 1 = s.port by omega, g2, ← hb] at hct
    have hcF : TurnC Try.prog (F0 ++ memS (hearAt S L out now k).1 (hearAt S L out now k).2) 6 [ptr ab, i64 s.port, s.b.val, i64 now] (fun _ => i64 0) (fun _ => F0 ++ memS (hearAt S L out now (k + 1)).1 (hearAt S L out now (k + 1)).2) :=
      (hct.c.frame F0).alike (perm_of_cnt fun y => by simp only [keysF_append, cnt_append]; omega) (fun _ => perm_of_cnt fun y => by simp only [keysF_append, cnt_append]; omega)
    generalize hM : hearAt S L out now k = M at hW hcF
    generalize hearAt S L out now (k + 1) = M' at hcF hT
    have hZ : ∀ w, Beside [] (F0 ++ memS M.1 M.2) w → Owns w F0 := fun w h => h.1.sub_left
    have hln : ReadOp Try.prog (Beside [] (F0 ++ memS M.1 M.2)) [] (opK bMt (0 :: 0 :: 0 :: [0, 1, 1, 1, 1, 1, 0, 0, 1, 0, 0, 1, 0, 1]) 2) [vy] (i64 out.length) := hv.len (P := Try.prog) (e := 72) rfl (by kernel_rfl)
    have hix1 : ReadOp Try.prog (Beside [] (F0 ++ memS M.1 M.2)) [] (opK bMt [0, 0, 1, 0, 0, 1, 1, 1, 1, 1, 0, 0, 1, 0, 0, 1, 0, 1] 3) [vy, i64 k] (.pointer (some (cellAt vy (k * 23)))) := hv.index (P := Try.prog) (e := 72) rfl (by kernel_rfl) (by kernel_rfl) hk
    have hix2 : ReadOp Try.prog (Beside [] (F0 ++ memS M.1 M.2)) [] (opK bMt [0, 0, 1, 0, 0, 1, 1, 1, 1, 1, 0, 0, 1, 0, 0, 1, 0, 1] 8) [vy, i64 k] (.pointer (some (cellAt vy (k * 23)))) := hv.index (P := Try.prog) (e := 72) rfl (by kernel_rfl) (by kernel_rfl) hk
    have hl1 : ReadOp Try.prog (Beside [] (F0 ++ memS M.1 M.2)) [] (opK bMt [0, 0, 1, 0, 0, 1, 1, 1, 1, 1, 0, 0, 1, 0, 0, 1, 0, 1] 5) [.pointer (some ⟨(cellAt vy (k * 23)).block, (cellAt vy (k * 23)).off + 0, none⟩)] (i64 s.port) := hv.load (P := Try.prog) hZ rfl (by kernel_rfl) (spkL_at hs rfl)
    have hl2 : ReadOp Try.prog (Beside [] (F0 ++ memS M.1 M.2)) [] (opK bMt [0, 0, 1, 0, 0, 1, 1, 1, 1, 1, 0, 0, 1, 0, 0, 1, 0, 1] 10) [.pointer (some ⟨(cellAt vy (k * 23)).block, (cellAt vy (k * 23)).off + 1, none⟩)] s.b.val :=
      hv.loads (P := Try.prog) (ys := s.b.cells) hZ rfl (by kernel_rfl) (by kernel_rfl) (fun i y hi => by rw [Nat.add_assoc]; exact spkL_at hs (by rw [Nat.add_comm]; exact hi)) (by omega)
    refine pk_run2 (H := []) fit safe 200 [.rd [] (i64 out.length) .no, .d true, .rd [] (.pointer (some (cellAt vy (k * 23)))) .no, .rd [] (i64 s.port) .no, .rd [] (.pointer (some (cellAt vy (k * 23)))) .no, .rd [] s.b.val .no, .stop]
      [.run, callF (fun _ => i64 0) (fun _ => F0 ++ memS M'.1 M'.2)] [] [0, 1, 2, 3, 9, 10, 12, 15]
      (fun ν => ⟨[decide ((k : Int) < (out.length : Int))], [true], [_, _, _, _, _, _], .stop (.goal T :: K) (frMt ab bb now vx vy ++ [(15, .val (sv (i64 (wr ((k : Int) + 1)))))]) [] (F0 ++ memS M'.1 M'.2)⟩)
      hA hW (fun ν => by kernel_rfl) (fun _ => by simpa using hk) (fun _ => ⟨hln, hix1, hl1, hix2, hl2, hcF⟩) (fun ν a w2 hA hW2 => ?_)
    rw [wr_nat (by omega)] at hA
    exact hT a w2 ⟨hA, hW2⟩
  · rintro a w1 ⟨hA, hW⟩ T
    exact hend a w1 T hA hW

structure Mt where
  (A : Sp) (pa : List (Nat × Port)) (B : Sp) (pb : List (Nat × Port))
def mtA (M : Mt) (now : Int) : Tk2 := tickOf M.A M.pa now
def mtB (M : Mt) (now : Int) : Tk2 := tickOf M.B M.pb now
def mtStep (M : Mt) (now : Int) : Mt :=
  ⟨(hearAt (mtA M now).S (mtA M now).ps (mtB M now).out now (mtB M now).out.length).1, (hearAt (mtA M now).S (mtA M now).ps (mtB M now).out now (mtB M now).out.length).2,
   (hearAt (mtB M now).S (mtB M now).ps (mtA M now).out now (mtA M now).out.length).1, (hearAt (mtB M now).S (mtB M now).ps (mtA M now).out now (mtA M now).out.length).2⟩
def mtOk (M : Mt) (now : Int) : Bool := okAll (mtB M now).S (mtB M now).ps (mtA M now).out now && (okAll (mtA M now).S (mtA M now).ps (mtB M now).out now && (decide ((mtA M now).out.length ≤ 100) && decide ((mtB M now).out.length ≤ 100)))
def mtAt (M : Mt) : Nat → Mt
  | 0 => M
  | k + 1 => mtStep (mtAt M k) k
def mtAll (M : Mt) : Bool := (List.range 3).all fun k => mtOk (mtAt M k) (k : Int)
theorem mtStep_ok (M : Mt) (now : Int) : (mtStep M now).A.b = M.A.b ∧ (mtStep M now).B.b = M.B.b ∧ hdr (mtStep M now).pa = hdr M.pa ∧ hdr (mtStep M now).pb = hdr M.pb := by
  have a1 := tick_ok M.A M.pa now
  have b1 := tick_ok M.B M.pb now
  have a2 := hearAt_ok (mtA M now).S (mtA M now).ps (mtB M now).out now (mtB M now).out.length
  have b2 := hearAt_ok (mtB M now).S (mtB M now).ps (mtA M now).out now (mtA M now).out.length
  exact ⟨a2.2.1.trans a1.2.1, b2.2.1.trans b1.2.1, a2.1.trans a1.1, b2.1.trans b1.1⟩
theorem mtAt_ok (M : Mt) : ∀ k, (mtAt M k).A.b = M.A.b ∧ (mtAt M k).B.b = M.B.b ∧ hdr (mtAt M k).pa = hdr M.pa ∧ hdr (mtAt M k).pb = hdr M.pb
  | 0 => ⟨rfl, rfl, rfl, rfl⟩
  | k + 1 => by
    have ih := mtAt_ok M k
    have := mtStep_ok (mtAt M k) k
    exact ⟨this.1.trans ih.1, this.2.1.trans ih.2.1, this.2.2.1.trans ih.2.2.1, this.2.2.2.trans ih.2.2.2⟩

abbrev rowS (l : List Spk) (x : Nat × Nat) : List HE := rowH 72 spk0.val (spkL l) l.length (rowX l.length x)
abbrev valS (l : List Spk) (x : Nat × Nat) : Value := rowV (rowX l.length x) l.length
abbrev frM0 (ab bb : Nat) (now : Int) : Fr := [(0, .val (sv (ptr ab))), (1, .val (sv (ptr bb))), (2, .val (sv (i64 0))), (3, .val (sv (i64 3))), (9, .val (sv (i64 now)))]

theorem cnt_memS (S : Sp) (ps : List (Nat × Port)) (y : Nat × Obj × Bool) : cnt y (keysF (memS S ps)) = cnt y (keysF (memS S ps)) := rfl

theorem meet_c (I : List HE) (M : Mt) (hfa : Fair M.pa) (hfb : Fair M.pb) (hok : mtAll M = true) :
    TurnC Try.prog (I ++ memS M.A M.pa ++ memS M.B M.pb) 13 [ptr M.A.b, ptr M.B.b, i64 0, i64 3] (fun _ => .bool true)
      (fun _ => I ++ memS (mtAt M 3).A (mtAt M 3).pa ++ memS (mtAt M 3).B (mtAt M 3).pb) := by
  intro w hO
  refine calls_pk (ys := [sv (ptr M.A.b), sv (ptr M.B.b), sv (i64 0), sv (i64 3)]) Try.func13 (body := bMt) rfl fun a hA => ?_
  refine pk_run2 (w0 := w) (D := blocksOf (I ++ memS M.A M.pa ++ memS M.B M.pb)) fit safe 100 [] [] [] [0, 1, 2, 3, 9]
    (fun ν => ⟨[], [], [], .stop (kAt bMt [0, 1, 0, 1]) (frM0 M.A.b M.B.b (0 : Nat)) [] (I ++ memS M.A M.pa ++ memS M.B M.pb)⟩)
    hA (H := []) (WI.start hO) (fun ν => by kernel_rfl) (fun _ => rfl) (fun _ => trivial) (fun ν a w1 hA hW => ?_)
  generalize blocksOf (I ++ memS M.A M.pa ++ memS M.B M.pb) = D at hW ⊢
  refine pk_range (b := child 0 (sub bMt [0, 1, 0, 1])) rfl 3 (fun k a w1 => Agrees 80 (frM0 M.A.b M.B.b (k : Nat)) a ∧ WI w D (I ++ memS (mtAt M k).A (mtAt M k).pa ++ memS (mtAt M k).B (mtAt M k).pb) w1) ?_ ?_ 0 a w1 (by omega) ⟨hA, hW⟩
  · rintro k a w1 hk ⟨hA, hW⟩ T hT
    obtain ⟨g1, g2, g3, g4⟩ := mtAt_ok M k
    have hk1 : mtOk (mtAt M k) k = true := List.all_eq_true.1 hok k (by simpa using hk)
    have hm : momentB k = true := by simp only [momentB]; simp; omega
    have hst : mtAt M (k + 1) = mtStep (mtAt M k) k := rfl
    rw [hst] at hT
    have hta := tick_c (mtAt M k).A (mtAt M k).pa (hfa.of g3) k hm
    have htb := tick_c (mtAt M k).B (mtAt M k).pb (hfb.of g4) k hm
    have a1 := tick_ok (mtAt M k).A (mtAt M k).pa k
    have b1 := tick_ok (mtAt M k).B (mtAt M k).pb k
    rw [g1] at hta
    rw [g2] at htb
    have hab : M.A.b = (mtA (mtAt M k) k).S.b := (a1.2.1.trans g1).symm
    have hbb : M.B.b = (mtB (mtAt M k) k).S.b := (b1.2.1.trans g2).symm
    have hfa1 : Fair (mtA (mtAt M k) k).ps := hfa.of (a1.1.trans g3)
    have hfb1 : Fair (mtB (mtAt M k) k).ps := hfb.of (b1.1.trans g4)
    change TurnC Try.prog (memS (mtAt M k).A (mtAt M k).pa) 11 [ptr M.A.b, i64 k] (fun ξ => .tuple #[valS (mtA (mtAt M k) k).out (ξ 0), i64 0]) (fun ξ => memS (mtA (mtAt M k) k).S (mtA (mtAt M k) k).ps ++ rowS (mtA (mtAt M k) k).out (ξ 0)) at hta
    change TurnC Try.prog (memS (mtAt M k).B (mtAt M k).pb) 11 [ptr M.B.b, i64 k] (fun ξ => .tuple #[valS (mtB (mtAt M k) k).out (ξ 0), i64 0]) (fun ξ => memS (mtB (mtAt M k) k).S (mtB (mtAt M k) k).ps ++ rowS (mtB (mtAt M k) k).out (ξ 0)) at htb
    unfold mtStep at hT
    simp only [mtOk, Bool.and_eq_true, decide_eq_true_eq] at hk1
    generalize mtA (mtAt M k) k = tA at hta hab hfa1 hT hk1
    generalize mtB (mtAt M k) k = tB at htb hbb hfb1 hT hk1
    generalize mtAt M k = N at hW hta htb
    obtain ⟨ok1, ok2, ok3, ok4⟩ := hk1
    have hcA : TurnC Try.prog (I ++ memS N.A N.pa ++ memS N.B N.pb) 11 [ptr M.A.b, i64 k] (fun ξ => .tuple #[valS tA.out (ξ 0), i64 0]) (fun ξ => I ++ memS tA.S tA.ps ++ rowS tA.out (ξ 0) ++ memS N.B N.pb) :=
      (hta.frame (I ++ memS N.B N.pb)).alike (perm_of_cnt fun y => by simp only [keysF_append, cnt_append]; omega) (fun _ => perm_of_cnt fun y => by simp only [keysF_append, cnt_append]; omega)
    have hcB : ∀ x, TurnC Try.prog (I ++ memS tA.S tA.ps ++ rowS tA.out x ++ memS N.B N.pb) 11 [ptr M.B.b, i64 k] (fun ξ => .tuple #[valS tB.out (ξ 0), i64 0]) (fun ξ => (I ++ memS tA.S tA.ps ++ rowS tA.out x ++ rowS tB.out (ξ 0)) ++ memS tB.S tB.ps) := fun x =>
      (htb.frame (I ++ memS tA.S tA.ps ++ rowS tA.out x)).alike (perm_of_cnt fun y => by simp only [keysF_append, cnt_append]; omega) (fun _ => perm_of_cnt fun y => by simp only [keysF_append, cnt_append]; omega)
    refine pk_run2 (H := []) fit safe 200 [.d true, .stop, .stop, .d false] [.run, callF (fun ξ => .tuple #[valS tA.out (ξ 0), i64 0]) (fun ξ => I ++ memS tA.S tA.ps ++ rowS tA.out (ξ 0) ++ memS N.B N.pb),
        .run, .dep fun h => callF (fun ξ => .tuple #[valS tB.out (ξ 0), i64 0]) (fun ξ => (I ++ memS tA.S tA.ps ++ rowS tA.out (h 1 0) ++ rowS tB.out (ξ 0)) ++ memS tB.S tB.ps)] [] [0, 1, 2, 3, 9, 10, 12, 14]
      (fun ν => ⟨[decide ((k : Int) < 3), false], [true, false], [_, _], .stop (.c [0, 1, 0, 1, 1, 1, 0, 0, 1, 0, 0, 1, 0, 1] :: (kIn bMt [0, 1, 0, 1] [0, 1, 0, 1, 1, 1, 0, 0, 1, 0, 0, 1, 0, 1] ++ .goal T :: kRest bMt [0, 1, 0, 1])) (frMt M.A.b M.B.b k (valS tA.out (ν 1 0)) (valS tB.out (ν 3 0)) ++ [(14, .val (sv (i64 (0 : Nat))))]) []
        ((I ++ memS tA.S tA.ps ++ rowS tA.out (ν 1 0) ++ rowS tB.out (ν 3 0)) ++ memS tB.S tB.ps)⟩)
      hA hW (fun ν => by kernel_rfl) (fun _ => by simp; omega) (fun ν => ⟨hcA, hcB (ν 1 0)⟩) (fun ν a w2 hA hW2 => ?_)
    generalize ν 1 0 = x at hA hW2
    generalize ν 3 0 = y at hA hW2
    have hvx : ∀ F0 : List HE, (rowS tA.out x).Sublist F0 → SliceOf F0 (valS tA.out x) 23 tA.out.length (spkL tA.out) := fun F0 h => (SliceOf.row (spkL_len tA.out)).mono fun w hO => hO.of_sub h
    have hvy : ∀ F0 : List HE, (rowS tB.out y).Sublist F0 → SliceOf F0 (valS tB.out y) 23 tB.out.length (spkL tB.out) := fun F0 h => (SliceOf.row (spkL_len tB.out)).mono fun w hO => hO.of_sub h
    have hv1 := hvx (I ++ memS tA.S tA.ps ++ rowS tA.out x ++ rowS tB.out y) ((List.sublist_append_right _ _).trans (List.sublist_append_left _ _))
    refine hear_loop1 (I ++ memS tA.S tA.ps ++ rowS tA.out x ++ rowS tB.out y) tB.S tB.ps tA.out M.A.b M.B.b hbb k (valS tA.out x) (valS tB.out y) hv1 hfb1 hm ok3 ok1 _ (fun a w3 T' hA hW3 => ?_) hA hW2
    generalize hearAt tB.S tB.ps tA.out k tA.out.length = hB at hW3 hT
    have hln1 : ReadOp Try.prog (Beside [] (I ++ memS tA.S tA.ps ++ rowS tA.out x ++ rowS tB.out y ++ memS hB.1 hB.2)) [] (opK bMt (0 :: 0 :: 0 :: [0, 1, 0, 1, 1, 1, 0, 0, 1, 0, 0, 1, 0, 1]) 2) [valS tA.out x] (i64 tA.out.length) := hv1.len (P := Try.prog) (e := 72) rfl (by kernel_rfl)
    refine pk_run2 (H := []) fit safe 200 [.rd [] (i64 tA.out.length) .no, .d false] [] [] [0, 1, 2, 3, 9, 10, 12, 15]
      (fun ν => ⟨[decide ((tA.out.length : Int) < (tA.out.length : Int))], [false], [_], .stop (.c [0, 1, 1, 1, 1, 1, 0, 0, 1, 0, 0, 1, 0, 1] :: (kIn bMt [0, 1, 0, 1] [0, 1, 1, 1, 1, 1, 0, 0, 1, 0, 0, 1, 0, 1] ++ .goal T :: kRest bMt [0, 1, 0, 1])) (frMt M.A.b M.B.b k (valS tA.out x) (valS tB.out y) ++ [(15, .val (sv (i64 (0 : Nat))))]) []
        (I ++ memS tA.S tA.ps ++ rowS tA.out x ++ rowS tB.out y ++ memS hB.1 hB.2)⟩)
      hA hW3 (fun ν => by kernel_rfl) (fun _ => by simp) (fun _ => hln1) (fun ν a w4 hA hW4 => ?_)
    have hW5 : WI w D ((I ++ memS hB.1 hB.2 ++ rowS tA.out x ++ rowS tB.out y) ++ memS tA.S tA.ps) w4 := WI.alike hW4 (perm_of_cnt fun y => by simp only [keysF_append, cnt_append, List.nil_append]; omega)
    have hv2 := hvy (I ++ memS hB.1 hB.2 ++ rowS tA.out x ++ rowS tB.out y) (List.sublist_append_right _ _)
    refine hear_loop2 (I ++ memS hB.1 hB.2 ++ rowS tA.out x ++ rowS tB.out y) tA.S tA.ps tB.out M.A.b M.B.b hab k (valS tA.out x) (valS tB.out y) hv2 hfa1 hm ok4 ok2 _ (fun a w6 T2 hA hW6 => ?_) hA hW5
    generalize hearAt tA.S tA.ps tB.out k tB.out.length = hA' at hW6 hT
    have hln2 : ReadOp Try.prog (Beside [] (I ++ memS hB.1 hB.2 ++ rowS tA.out x ++ rowS tB.out y ++ memS hA'.1 hA'.2)) [] (opK bMt (0 :: 0 :: 0 :: [0, 1, 1, 1, 1, 1, 0, 0, 1, 0, 0, 1, 0, 1]) 2) [valS tB.out y] (i64 tB.out.length) := hv2.len (P := Try.prog) (e := 72) rfl (by kernel_rfl)
    refine pk_run2 (H := []) fit safe 200 [.rd [] (i64 tB.out.length) .no, .d false] [] [] [0, 1, 2, 3, 9]
      (fun ν => ⟨[decide ((tB.out.length : Int) < (tB.out.length : Int))], [false], [_], .stop (.goal T :: kRest bMt [0, 1, 0, 1]) (frM0 M.A.b M.B.b (wr ((k : Int) + 1))) []
        (I ++ memS hB.1 hB.2 ++ rowS tA.out x ++ rowS tB.out y ++ memS hA'.1 hA'.2)⟩)
      hA hW6 (fun ν => by kernel_rfl) (fun _ => by simp) (fun _ => hln2) (fun ν a w7 hA hW7 => ?_)
    rw [wr_nat (by omega)] at hA
    refine hT a w7 ⟨hA, ?_⟩
    refine (hW7.alike (B := (I ++ memS hA'.1 hA'.2 ++ memS hB.1 hB.2) ++ (rowS tA.out x ++ rowS tB.out y)) (perm_of_cnt fun y => by simp only [keysF_append, cnt_append, List.nil_append]; omega)).forget
  · rintro a w1 ⟨hA, hW⟩ T
    refine pk_run2 (H := []) fit safe 200 [.d false] [] [] []
      (fun ν => ⟨[decide ((3 : Int) < 3)], [false], [], .ret (.bool true) [] (I ++ memS (mtAt M 3).A (mtAt M 3).pa ++ memS (mtAt M 3).B (mtAt M 3).pb)⟩)
      hA hW (fun ν => by kernel_rfl) (fun _ => by simp) (fun _ => trivial) (fun ν w2 hW2 => ⟨fun _ => (0, 0), rfl, hW2 [] rfl⟩)
end Go.Proofs.Ytbbpmhbeohpmnaa
