/- A port hears a bridge. -/
import Derived.Test.YtbbpmhbeohpmnaaSpK
namespace Go.Proofs.Ytbbpmhbeohpmnaa
open Rx Go.RowKit

noncomputable abbrev b27 : Code := bodyOf Try.f6

def andI (a b : Int) : Int := IntKind.i64.wrap ((BitVec.ofInt 64 a &&& BitVec.ofInt 64 b).toNat)
def flE (b : Nat) (f : Int) : HE := ⟨b, .cells 3 [known [i64 f]]⟩
def bpE (b : Nat) (p : Bpdu) : HE := ⟨b, .cells 33 [known p.cells]⟩
def hasF (fb : Nat) : TV := ⟨.func (.func 21) #[] #[ptr fb], .many [.loc 5 0 0]⟩
def hasB (f x : Int) : Bool := andI f x != 0

theorem has_any (fb : Nat) (f x : Int) : ReadCall Try.prog [flE fb f] 21 [i64 x, ptr fb] (.bool (hasB f x)) :=
  read_run fit safe Try.func21 rfl [sv (i64 x), pv fb 0] [flE fb f] 100 [] [true] [] [] (fun _ => []) (fun ν => by kernel_rfl) rfl (fun _ => trivial)

abbrev frT (S : Sp) (pb bb fb : Nat) (now : Int) (des : Bool) : Fr := [(0, .val (pv S.b 0)), (3, .val (sv (i64 now))), (9, .val (pv pb 3)), (6, .val (pv bb 4)), (10, .val (pv fb 5)), (11, .val (sv (.bool des))), (12, .val (hasF fb))]

theorem focus_x (S : Sp) (pre : List (Nat × Port)) (q : Nat × Port) (post : List (Nat × Port)) (p1 p2 n : Nat) (hn : pre.length + (post.length + 1) = n) (X : List HE) :
    ((memS S (pre ++ q :: post) ++ X).map HE.key).Perm ((([spE S n p1, arrF S pre q post p2, mapE S, portE q] ++ X) ++ (pre ++ post).map portE).map HE.key) := by
  have := focus_n S pre q post p1 p2 n hn
  refine perm_of_cnt fun x => ?_
  have := cnt_of_perm this x
  simp only [List.map_append, List.map_cons, List.map_nil, cnt_append, cnt_cons, cnt_nil] at this ⊢
  omega

structure Tk where
  (S : Sp) (pre : List (Nat × Port)) (q : Nat × Port) (post : List (Nat × Port))

def Tk.ps (t : Tk) : List (Nat × Port) := t.pre ++ t.q :: t.post
def tkC (n : Nat) (f now : Int) (t : Tk) : Tk := if hasB f 1 = true then { t with S := changedS t.S n t.pre.length now } else t
def agreeT (des : Bool) (f : Int) (b : Bpdu) (t : Tk) : Bool := cond (cond (cond (!des) (hasB f 64) false) (t.q.2.role == 2) false) (idEq b.root t.S.best.root) false
def tkB (n : Nat) (des : Bool) (f : Int) (b : Bpdu) (now : Int) (t : Tk) : Tk :=
  if agreeT des f b t = true then { t with S := fwdS t.S { t.q.2 with agreed := true } n t.pre.length now, q := (t.q.1, fwdP { t.q.2 with agreed := true }) } else t

def tkOf (S : Sp) (L : List (Nat × Port)) (k : Nat) (q : Nat × Port) : Tk := ⟨S, L.take k, (L[k]?).getD q, L.drop (k + 1)⟩
theorem tkOf_ps (S : Sp) (L : List (Nat × Port)) (k : Nat) (q : Nat × Port) (h : k < L.length) : (tkOf S L k q).ps = L := by
  simp only [tkOf, Tk.ps, List.getElem?_eq_getElem h, Option.getD_some]
  exact (split_at h).symm

def propL (L : List (Nat × Port)) (k : Nat) (now : Int) (q : Nat × Port) : List (Nat × Port) :=
  (allQ ((L[k]?).getD q).2 k now L).set k (((L[k]?).getD q).1, { ((L[k]?).getD q).2 with reply := replyB ((L[k]?).getD q).2 })
def tkA (f : Int) (des : Bool) (b : Bpdu) (now : Int) (t : Tk) : Tk :=
  if cond des (decide (b.age < 20)) false = true then
    if hasB f 2 = true then tkOf (reckonOf t.S (t.pre ++ (t.q.1, hears t.q.2 b now) :: t.post) now).1 (propL (reckonOf t.S (t.pre ++ (t.q.1, hears t.q.2 b now) :: t.post) now).2 t.pre.length now t.q) t.pre.length t.q
    else tkOf (reckonOf t.S (t.pre ++ (t.q.1, hears t.q.2 b now) :: t.post) now).1 (reckonOf t.S (t.pre ++ (t.q.1, hears t.q.2 b now) :: t.post) now).2 t.pre.length t.q
  else t
def flagsOf (b : Bpdu) : Int := if (b.kind == 0) = true then 12 else b.flags
def desB (f : Int) : Bool := andI f 12 == 12
def takeOf (S : Sp) (pre : List (Nat × Port)) (q : Nat × Port) (post : List (Nat × Port)) (b : Bpdu) (now : Int) : Tk :=
  tkC (pre.length + (post.length + 1)) (flagsOf b) now (tkB (pre.length + (post.length + 1)) (desB (flagsOf b)) (flagsOf b) b now (tkA (flagsOf b) (desB (flagsOf b)) b now ⟨S, pre, (q.1, { q.2 with edge := false }), post⟩))

theorem rk_fst (S : Sp) (ps : List (Nat × Port)) (roles : List Int) (now : Int) (h : roles.length = ps.length) : ∀ k, k ≤ ps.length → (rkAt S ps roles now k).2.map (·.1) = (ps.take k).map (·.1)
  | 0, _ => rfl
  | k + 1, hk => by
    have ih := rk_fst S ps roles now h k (by omega)
    have h1 : k < ps.length := by omega
    have h2 : k < roles.length := by omega
    simp only [rkAt, List.getElem?_eq_getElem h1, List.getElem?_eq_getElem h2, List.map_append, ih, List.take_succ_eq_append_getElem h1, List.map_cons, List.map_nil]

theorem selR_len (S : Sp) (ps : List (Nat × Port)) : (selR S ps).length = ps.length := by simp [selR, rolesOf]
theorem reckon_fst (S : Sp) (ps : List (Nat × Port)) (now : Int) : (reckonOf S ps now).2.map (·.1) = ps.map (·.1) := by
  have := rk_fst (withBest S (selB S ps)) ps (selR S ps) now (selR_len S ps) ps.length (Nat.le_refl _)
  rwa [List.take_length] at this
theorem reckon_len (S : Sp) (ps : List (Nat × Port)) (now : Int) : (reckonOf S ps now).2.length = ps.length := by
  have := congrArg List.length (reckon_fst S ps now)
  simpa using this
theorem reckon_b (S : Sp) (ps : List (Nat × Port)) (now : Int) : (reckonOf S ps now).1.b = S.b := (rk_same (withBest S (selB S ps)) ps (selR S ps) now ps.length).1

theorem fst_at {L L' : List (Nat × Port)} (h : L.map (·.1) = L'.map (·.1)) (k : Nat) (q : Nat × Port) (hk : L'[k]? = some q) : ∃ q', L[k]? = some q' ∧ q'.1 = q.1 := by
  have := congrArg (fun l => l[k]?) h
  simp only [List.getElem?_map, hk, Option.map_some] at this
  cases hx : L[k]? with
  | none => simp [hx] at this
  | some q' => simp [hx] at this; exact ⟨q', rfl, this⟩

theorem prop_fst (L : List (Nat × Port)) (k : Nat) (now : Int) (q : Nat × Port) (hk : k < L.length) : (propL L k now q).map (·.1) = L.map (·.1) := by
  apply List.ext_getElem?
  intro i
  simp only [propL, List.getElem?_map, List.getElem?_set, allQ_len, allQ_get, List.getElem?_eq_getElem hk, Option.getD_some]
  by_cases h : k = i
  · subst h
    simp [hk]
  · rw [if_neg h]
    cases L[i]? with
    | none => rfl
    | some x =>
      simp only [Option.map_some, propQ]
      split
      · rfl
      · split <;> rfl

theorem take_at (S : Sp) (pre : List (Nat × Port)) (q : Nat × Port) (post : List (Nat × Port)) (hf : Fair (pre ++ q :: post)) (b : Bpdu) (hr : rightB b = true) (hkd : b.kind ≠ 128) (hup : q.2.h.up = true) (now : Int) (hm : momentB now = true) :
    Turns Try.prog (memS S (pre ++ q :: post)) 6 [ptr S.b, i64 ((pre.length : Int) + 1), b.val, i64 now] (i64 0) (memS (takeOf S pre q post b now).S (takeOf S pre q post b now).ps) := by
  intro w hO
  have h64 := fair_small hf.2.2
  generalize hn : pre.length + (post.length + 1) = n
  have hl : (pre ++ q :: post).length = n := by simp; omega
  generalize hfin : takeOf S pre q post b now = Tf
  have hix : IxOk (wr ((pre.length : Int) + 1 - 1)) n 0 1 (ptrs pre).length := by rw [sub_one (by omega)]; simp [IxOk, ptrs]; omega
  generalize hD : blocksOf (memS S (pre ++ q :: post)) = D
  -- the end: is a change told?
  have hC : ∀ (bb fb : Nat) (des : Bool) (f : Int) (t : Tk) (a : Act) (w' : World), t.pre.length + (t.post.length + 1) = n → tkC n f now t = Tf → Agrees 111 (frT t.S t.q.1 bb fb now des) a →
      WI w D (memS t.S t.ps ++ [bpE bb b, flE fb f]) w' → PK Try.prog Try.f6 (fun e w' => e = Ending.returned (i64 0) ∧ WI w D (memS Tf.S Tf.ps) w') b27 (kAt b27 [0, 0, 1, 1, 1, 1, 1, 1, 1, 1, 1, 1]) .normal a w' := by
    intro bb fb des f t a w' htn htf hA hW
    have hW1 := hW.like (focus_x t.S t.pre t.q t.post 1 3 n htn [bpE bb b, flE fb f])
    cases hc : hasB f 1 with
    | false =>
      rw [tkC, if_neg (by simp [hc])] at htf
      refine pk_runF fit safe 100 [.read [5] (.bool (hasB f 1)), .d false] [true, true, true, true] []
        (fun ν => ⟨[hasB f 1], [false], [ReadCall Try.prog [flE fb f] 21 [i64 1, ptr fb] (.bool (hasB f 1))], .ret (i64 0) (facts [spE t.S n 1, arrF t.S t.pre t.q t.post 3, mapE t.S, portE t.q])⟩)
        hA hW1 (fun ν => by kernel_rfl) (fun _ => by simp [hc]) (fun _ => has_any fb f 1) (fun ν w2 hW2 => ⟨rfl, ?_⟩)
      rw [← htf]
      exact (hW2 _ rfl).like (focus_n t.S t.pre t.q t.post 1 3 n htn).symm
    | true =>
      rw [tkC, if_pos hc] at htf
      refine pk_runF fit safe 100 [.read [5] (.bool (hasB f 1)), .d true, .stop] [true, true, true, true] [107, 108, 109]
        (fun ν => ⟨[hasB f 1], [true], [ReadCall Try.prog [flE fb f] 21 [i64 1, ptr fb] (.bool (hasB f 1))], .stop (.ops [0, 1, 0, 1, 1, 1, 1, 1, 1, 1, 1, 1, 1] 3 :: kRest b27 [0, 1, 0, 1, 1, 1, 1, 1, 1, 1, 1, 1, 1]) [(107, .val (pv t.S.b 0)), (108, .val (pv t.q.1 3)), (109, .val (sv (i64 now)))] [spE t.S n 1, arrF t.S t.pre t.q t.post 3, mapE t.S, portE t.q]⟩)
        hA hW1 (fun ν => by kernel_rfl) (fun _ => by simp [hc]) (fun _ => has_any fb f 1) (fun ν a w2 hA hW2 => ?_)
      have hW3 := hW2.like (focus_n t.S t.pre t.q t.post 1 3 n htn).symm
      refine pk_turn fit (changed_at t.S t.pre t.q t.post n htn (by omega) now) (F := []) (match nth (opsOf (sub b27 [0, 1, 0, 1, 1, 1, 1, 1, 1, 1, 1, 1, 1])) 3 with | some o => o | none => default) (.func 20) #[.tmp 107, .tmp 108, .tmp 109]
        (match (match nth (opsOf (sub b27 [0, 1, 0, 1, 1, 1, 1, 1, 1, 1, 1, 1, 1])) 3 with | some o => o | none => default).op with | .call c => c.argTypes | _ => #[]) #[] #[] .no [pv t.S.b 0, pv t.q.1 3, sv (i64 now)]
        (by kernel_rfl) (by kernel_rfl) (by kernel_rfl) hA (by rfl) (by rfl) Try.func20 (b' := b20) rfl (by rfl) (by rw [List.append_nil]; exact hW3) (fun w3 hW4 => ?_)
      rw [List.append_nil] at hW4
      refine pk_runF (H := []) fit safe 100 [] [] []
        (fun ν => ⟨[], [], [], .ret (i64 0) []⟩)
        (hA.put (dst := some 110) (se := .junk) (v := unit) (by kernel_rfl) trivial) hW4 (fun ν => by kernel_rfl) (fun _ => rfl) (fun _ => trivial) (fun ν w5 hW5 => ⟨rfl, ?_⟩)
      rw [← htf]
      exact hW5 [] rfl
  -- a designated port that agreed
  have hB : ∀ (bb fb : Nat) (des : Bool) (f : Int) (t : Tk) (a : Act) (w' : World), t.pre.length + (t.post.length + 1) = n → tkC n f now (tkB n des f b now t) = Tf → Agrees 111 (frT t.S t.q.1 bb fb now des) a →
      WI w D (memS t.S t.ps ++ [bpE bb b, flE fb f]) w' → PK Try.prog Try.f6 (fun e w' => e = Ending.returned (i64 0) ∧ WI w D (memS Tf.S Tf.ps) w') b27 (kAt b27 [0, 0, 1, 1, 1, 1, 1, 1, 1, 1, 1]) .normal a w' := by
    intro bb fb des f t a w' htn htf hA hW
    have hW1 := hW.like (focus_x t.S t.pre t.q t.post 1 3 n htn [bpE bb b, flE fb f])
    have hps : All [((!des) = true → ReadCall Try.prog [flE fb f] 21 [i64 64, ptr fb] (.bool (hasB f 64)))] := fun _ => has_any fb f 64
    cases hc : agreeT des f b t with
    | false =>
      rw [tkB, if_neg (by simp [hc])] at htf
      refine pk_runF fit safe 300 [.read [5] (.bool (hasB f 64)), .d false, .cut [0, 0, 1, 1, 1, 1, 1, 1, 1, 1, 1, 1]] [true, true, true, true, true, true] [0, 3, 9, 6, 10, 11, 12]
        (fun ν => ⟨[agreeT des f b t], [false], _, .stop (kAt b27 [0, 0, 1, 1, 1, 1, 1, 1, 1, 1, 1, 1]) (frT t.S t.q.1 bb fb now des) [spE t.S n 1, arrF t.S t.pre t.q t.post 3, mapE t.S, portE t.q, bpE bb b, flE fb f]⟩)
        hA hW1 (fun ν => by kernel_rfl) (fun _ => by simp [hc]) (fun _ => hps) (fun ν a w2 hA hW2 => ?_)
      exact hC bb fb des f t a w2 htn htf hA (hW2.like (focus_x t.S t.pre t.q t.post 1 3 n htn [bpE bb b, flE fb f]).symm)
    | true =>
      rw [tkB, if_pos hc] at htf
      refine pk_runF fit safe 300 [.read [5] (.bool (hasB f 64)), .d true, .stop] [true, true, true, true, true, true] [0, 3, 9, 6, 10, 11, 12, 101, 102, 103]
        (fun ν => ⟨[agreeT des f b t], [true], _, .stop (.ops [1, 0, 1, 0, 1, 1, 1, 1, 1, 1, 1, 1, 1] 3 :: kRest b27 [1, 0, 1, 0, 1, 1, 1, 1, 1, 1, 1, 1, 1]) (frT t.S t.q.1 bb fb now des ++ [(101, .val (pv t.S.b 0)), (102, .val (pv t.q.1 3)), (103, .val (sv (i64 now)))]) [spE t.S n 1, arrF t.S t.pre t.q t.post 3, mapE t.S, portE (t.q.1, { t.q.2 with agreed := true }), bpE bb b, flE fb f]⟩)
        hA hW1 (fun ν => by kernel_rfl) (fun _ => by simp [hc]) (fun _ => hps) (fun ν a w2 hA hW2 => ?_)
      have hW3 := hW2.like (focus_x t.S t.pre (t.q.1, { t.q.2 with agreed := true }) t.post 1 3 n htn [bpE bb b, flE fb f]).symm
      refine pk_turn fit (forwards_at t.S t.pre (t.q.1, { t.q.2 with agreed := true }) t.post n htn (by omega) now) (F := [bpE bb b, flE fb f]) (match nth (opsOf (sub b27 [1, 0, 1, 0, 1, 1, 1, 1, 1, 1, 1, 1, 1])) 3 with | some o => o | none => default) (.func 25) #[.tmp 101, .tmp 102, .tmp 103]
        (match (match nth (opsOf (sub b27 [1, 0, 1, 0, 1, 1, 1, 1, 1, 1, 1, 1, 1])) 3 with | some o => o | none => default).op with | .call c => c.argTypes | _ => #[]) #[] #[] .no [pv t.S.b 0, pv t.q.1 3, sv (i64 now)]
        (by kernel_rfl) (by kernel_rfl) (by kernel_rfl) hA (by rfl) (by rfl) Try.func25 (b' := b25) rfl (by rfl) hW3 (fun w3 hW4 => ?_)
      refine pk_runF (H := []) fit safe 100 [.cut [0, 0, 1, 1, 1, 1, 1, 1, 1, 1, 1, 1]] [] [0, 3, 9, 6, 10, 11, 12]
        (fun ν => ⟨[], [], [], .stop (kAt b27 [0, 0, 1, 1, 1, 1, 1, 1, 1, 1, 1, 1]) (frT t.S t.q.1 bb fb now des) []⟩)
        (hA.put (dst := some 104) (se := .junk) (v := unit) (by kernel_rfl) trivial) hW4 (fun ν => by kernel_rfl) (fun _ => rfl) (fun _ => trivial) (fun ν a w5 hA hW5 => ?_)
      refine hC bb fb des f _ a w5 (by exact htn) htf ?_ hW5
      have e : (fwdS t.S { t.q.2 with agreed := true } n t.pre.length now).b = t.S.b := by unfold fwdS; split <;> rfl
      simp only [frT, e]
      exact hA
  -- what is heard
  have hAa : ∀ (bb fb : Nat) (des : Bool) (f : Int) (a : Act) (w' : World), tkC n f now (tkB n des f b now (tkA f des b now ⟨S, pre, (q.1, { q.2 with edge := false }), post⟩)) = Tf → Agrees 111 (frT S q.1 bb fb now des) a →
      WI w D (memS S (pre ++ (q.1, { q.2 with edge := false }) :: post) ++ [bpE bb b, flE fb f]) w' → PK Try.prog Try.f6 (fun e w' => e = Ending.returned (i64 0) ∧ WI w D (memS Tf.S Tf.ps) w') b27 (kAt b27 [0, 0, 1, 1, 1, 1, 1, 1, 1, 1]) .normal a w' := by
    intro bb fb des f a w' htf hA hW
    have hf1 : Fair (pre ++ (q.1, { q.2 with edge := false }) :: post) := hf.of (by simp [hdr])
    generalize hq1 : ({ q.2 with edge := false } : Port) = p1 at htf hW hf1
    have hW1 := hW.like (focus_x S pre (q.1, p1) post 1 3 n hn [bpE bb b, flE fb f])
    cases hc : cond des (decide (b.age < 20)) false with
    | false =>
      rw [tkA, if_neg (by simp [hc])] at htf
      refine pk_runF fit safe 300 [.d false, .cut [0, 0, 1, 1, 1, 1, 1, 1, 1, 1, 1]] [true, true, true, true, true, true] [0, 3, 9, 6, 10, 11, 12]
        (fun ν => ⟨[cond des (decide (b.age < 20)) false], [false], [], .stop (kAt b27 [0, 0, 1, 1, 1, 1, 1, 1, 1, 1, 1]) (frT S q.1 bb fb now des) [spE S n 1, arrF S pre (q.1, p1) post 3, mapE S, portE (q.1, p1), bpE bb b, flE fb f]⟩)
        hA hW1 (fun ν => by kernel_rfl) (fun _ => by simp only [hc]) (fun _ => trivial) (fun ν a w2 hA hW2 => ?_)
      exact hB bb fb des f ⟨S, pre, (q.1, p1), post⟩ a w2 hn htf hA (hW2.like (focus_x S pre (q.1, p1) post 1 3 n hn [bpE bb b, flE fb f]).symm)
    | true =>
      rw [tkA, if_pos hc] at htf
      simp only at htf
      refine pk_runF fit safe 300 [.d true, .stop] [true, true, true, true, true, true] [0, 3, 9, 6, 10, 11, 12, 62, 63, 64]
        (fun ν => ⟨[cond des (decide (b.age < 20)) false], [true], [], .stop (.ops [0, 0, 1, 0, 1, 1, 1, 1, 1, 1, 1, 1] 3 :: kRest b27 [0, 0, 1, 0, 1, 1, 1, 1, 1, 1, 1, 1]) (frT S q.1 bb fb now des ++ [(62, .val (pv q.1 3)), (63, .val ⟨b.val, .many (nos 22)⟩), (64, .val (sv (i64 now)))]) [spE S n 1, arrF S pre (q.1, p1) post 3, mapE S, portE (q.1, p1), bpE bb b, flE fb f]⟩)
        hA hW1 (fun ν => by kernel_rfl) (fun _ => by simp only [hc]) (fun _ => trivial) (fun ν a w2 hA hW2 => ?_)
      have hW3 : WI w D ([portE (q.1, p1)] ++ ([spE S n 1, arrF S pre (q.1, p1) post 3, mapE S] ++ (pre ++ post).map portE ++ [bpE bb b, flE fb f])) w2 := by
        refine hW2.like ?_
        refine perm_of_cnt fun x => ?_
        simp only [List.map_append, List.map_cons, List.map_nil, cnt_append, cnt_cons, cnt_nil]
        omega
      refine pk_turn fit (hears_any p1 b now q.1 hr hkd) (F := [spE S n 1, arrF S pre (q.1, p1) post 3, mapE S] ++ (pre ++ post).map portE ++ [bpE bb b, flE fb f]) (match nth (opsOf (sub b27 [0, 0, 1, 0, 1, 1, 1, 1, 1, 1, 1, 1])) 3 with | some o => o | none => default) (.func 22) #[.tmp 62, .tmp 63, .tmp 64]
        (match (match nth (opsOf (sub b27 [0, 0, 1, 0, 1, 1, 1, 1, 1, 1, 1, 1])) 3 with | some o => o | none => default).op with | .call c => c.argTypes | _ => #[]) #[] #[] .no [pv q.1 3, ⟨b.val, .many (nos 22)⟩, sv (i64 now)]
        (by kernel_rfl) (by kernel_rfl) (by kernel_rfl) hA (by rfl) (by rfl) Try.func22 (b' := bodyOf Try.f22) rfl (by rfl) hW3 (fun w3 hW4 => ?_)
      have hW5 : WI w D (memS S (pre ++ (q.1, hears p1 b now) :: post) ++ [bpE bb b, flE fb f]) w3 := by
        refine hW4.like ?_
        have := focus_x S pre (q.1, hears p1 b now) post 1 3 n hn [bpE bb b, flE fb f]
        have e : arrF S pre (q.1, hears p1 b now) post 3 = arrF S pre (q.1, p1) post 3 := rfl
        refine perm_of_cnt fun x => ?_
        have := cnt_of_perm this x
        simp only [List.map_append, List.map_cons, List.map_nil, cnt_append, cnt_cons, cnt_nil, e] at this ⊢
        omega
      have hf2 : Fair (pre ++ (q.1, hears p1 b now) :: post) := hf1.of (by
        have : (hears p1 b now).h.port = p1.h.port ∧ (hears p1 b now).h.cost = p1.h.cost := by unfold hears hearsP; split <;> exact ⟨rfl, rfl⟩
        simp [hdr, this])
      have hlL : (reckonOf S (pre ++ (q.1, hears p1 b now) :: post) now).2.length = n := by rw [reckon_len]; simp; omega
      have hqk : (pre ++ (q.1, hears p1 b now) :: post)[pre.length]? = some (q.1, hears p1 b now) := by simp
      obtain ⟨q2, hq2, hq2b⟩ := fst_at (reckon_fst S (pre ++ (q.1, hears p1 b now) :: post) now) pre.length _ hqk
      have hSb := reckon_b S (pre ++ (q.1, hears p1 b now) :: post) now
      have htl : ∀ (L : List (Nat × Port)) (S' : Sp), L.length = n → (tkOf S' L pre.length (q.1, p1)).pre.length + ((tkOf S' L pre.length (q.1, p1)).post.length + 1) = n := by
        intro L S' h
        simp only [tkOf, List.length_take, List.length_drop]
        omega
      -- all is reckoned anew
      refine pk_runF (H := []) fit safe 100 [.stop] [] [0, 3, 9, 6, 10, 11, 12, 66, 67]
        (fun ν => ⟨[], [], [], .stop (.ops [0, 1, 0, 1, 0, 1, 1, 1, 1, 1, 1, 1, 1] 2 :: kRest b27 [0, 1, 0, 1, 0, 1, 1, 1, 1, 1, 1, 1, 1]) (frT S q.1 bb fb now des ++ [(66, .val (pv S.b 0)), (67, .val (sv (i64 now)))]) []⟩)
        (hA.put (dst := some 65) (se := .junk) (v := unit) (by kernel_rfl) trivial) hW5 (fun ν => by kernel_rfl) (fun _ => rfl) (fun _ => trivial) (fun ν a w4 hA hW6 => ?_)
      refine pk_turn fit (reckon_turn S (pre ++ (q.1, hears p1 b now) :: post) hf2.1 hf2.2.1 hf2.2.2 now) (F := [bpE bb b, flE fb f]) (match nth (opsOf (sub b27 [0, 1, 0, 1, 0, 1, 1, 1, 1, 1, 1, 1, 1])) 2 with | some o => o | none => default) (.func 23) #[.tmp 66, .tmp 67]
        (match (match nth (opsOf (sub b27 [0, 1, 0, 1, 0, 1, 1, 1, 1, 1, 1, 1, 1])) 2 with | some o => o | none => default).op with | .call c => c.argTypes | _ => #[]) #[] #[] .no [pv S.b 0, sv (i64 now)]
        (by kernel_rfl) (by kernel_rfl) (by kernel_rfl) hA (by rfl) (by rfl) Try.func23 (b' := b21) rfl (by rfl) hW6 (fun w5 hW7 => ?_)
      generalize reckonOf S (pre ++ (q.1, hears p1 b now) :: post) now = rk at htf hlL hq2 hSb hW7
      obtain ⟨S2, L2⟩ := rk
      simp only at htf hlL hq2 hSb hW7
      have hW8 : WI w D ([flE fb f] ++ (memS S2 L2 ++ [bpE bb b])) w5 := by
        refine hW7.like ?_
        refine perm_of_cnt fun x => ?_
        simp only [List.map_append, List.map_cons, List.map_nil, cnt_append, cnt_cons, cnt_nil]
        omega
      have hkL : pre.length < L2.length := by omega
      cases hp : hasB f 2 with
      | false =>
        rw [if_neg (by simp [hp])] at htf
        refine pk_runF fit safe 100 [.read [0] (.bool (hasB f 2)), .d false, .cut [0, 0, 1, 1, 1, 1, 1, 1, 1, 1, 1]] [true] [0, 3, 9, 6, 10, 11, 12]
          (fun ν => ⟨[hasB f 2], [false], [ReadCall Try.prog [flE fb f] 21 [i64 2, ptr fb] (.bool (hasB f 2))], .stop (kAt b27 [0, 0, 1, 1, 1, 1, 1, 1, 1, 1, 1]) (frT S q.1 bb fb now des) [flE fb f]⟩)
          (hA.put (dst := some 68) (se := .junk) (v := unit) (by kernel_rfl) trivial) hW8 (fun ν => by kernel_rfl) (fun _ => by simp [hp]) (fun _ => has_any fb f 2) (fun ν a w6 hA hW9 => ?_)
        refine hB bb fb des f (tkOf S2 L2 pre.length (q.1, p1)) a w6 (htl L2 S2 hlL) htf ?_ ?_
        · have e1 : (tkOf S2 L2 pre.length (q.1, p1)).S.b = S.b := hSb
          have e2 : (tkOf S2 L2 pre.length (q.1, p1)).q.1 = q.1 := by simp only [tkOf, hq2, Option.getD_some, hq2b]
          simp only [frT, e1, e2]
          exact hA
        · rw [tkOf_ps _ _ _ _ hkL]
          refine hW9.like ?_
          refine perm_of_cnt fun x => ?_
          simp only [List.map_append, List.map_cons, List.map_nil, cnt_append, cnt_cons, cnt_nil, tkOf]
          omega
      | true =>
        rw [if_pos hp] at htf
        refine pk_runF fit safe 100 [.read [0] (.bool (hasB f 2)), .d true, .stop] [true] [0, 3, 9, 6, 10, 11, 12, 71, 72, 73]
          (fun ν => ⟨[hasB f 2], [true], [ReadCall Try.prog [flE fb f] 21 [i64 2, ptr fb] (.bool (hasB f 2))], .stop (.ops [0, 1, 1, 1, 0, 1, 0, 1, 1, 1, 1, 1, 1, 1, 1] 3 :: kRest b27 [0, 1, 1, 1, 0, 1, 0, 1, 1, 1, 1, 1, 1, 1, 1]) (frT S q.1 bb fb now des ++ [(71, .val (pv S.b 0)), (72, .val (pv q.1 3)), (73, .val (sv (i64 now)))]) [flE fb f]⟩)
          (hA.put (dst := some 68) (se := .junk) (v := unit) (by kernel_rfl) trivial) hW8 (fun ν => by kernel_rfl) (fun _ => by simp [hp]) (fun _ => has_any fb f 2) (fun ν a w6 hA hW9 => ?_)
        have hpt := proposed_turn S2 L2 (by omega) pre.length hkL now
        have hgq : L2[pre.length] = q2 := by rw [List.getElem?_eq_getElem hkL] at hq2; exact Option.some.inj hq2
        have hpl : propL L2 pre.length now (q.1, p1) = (allQ q2.2 pre.length now L2).set pre.length (q2.1, { q2.2 with reply := replyB q2.2 }) := by simp only [propL, hq2, Option.getD_some]
        rw [hgq, ← hpl, hq2b, hSb] at hpt
        have hW10 : WI w D (memS S2 L2 ++ [flE fb f, bpE bb b]) w6 := by
          refine hW9.like ?_
          refine perm_of_cnt fun x => ?_
          simp only [List.map_append, List.map_cons, List.map_nil, cnt_append, cnt_cons, cnt_nil]
          omega
        refine pk_turn fit hpt (F := [flE fb f, bpE bb b]) (match nth (opsOf (sub b27 [0, 1, 1, 1, 0, 1, 0, 1, 1, 1, 1, 1, 1, 1, 1])) 3 with | some o => o | none => default) (.func 24) #[.tmp 71, .tmp 72, .tmp 73]
          (match (match nth (opsOf (sub b27 [0, 1, 1, 1, 0, 1, 0, 1, 1, 1, 1, 1, 1, 1, 1])) 3 with | some o => o | none => default).op with | .call c => c.argTypes | _ => #[]) #[] #[] .no [pv S.b 0, pv q.1 3, sv (i64 now)]
          (by kernel_rfl) (by kernel_rfl) (by kernel_rfl) hA (by rfl) (by rfl) Try.func24 (b' := b22) rfl (by rfl) hW10 (fun w7 hW11 => ?_)
        refine pk_runF (H := []) fit safe 100 [.cut [0, 0, 1, 1, 1, 1, 1, 1, 1, 1, 1]] [] [0, 3, 9, 6, 10, 11, 12]
          (fun ν => ⟨[], [], [], .stop (kAt b27 [0, 0, 1, 1, 1, 1, 1, 1, 1, 1, 1]) (frT S q.1 bb fb now des) []⟩)
          (hA.put (dst := some 74) (se := .junk) (v := unit) (by kernel_rfl) trivial) hW11 (fun ν => by kernel_rfl) (fun _ => rfl) (fun _ => trivial) (fun ν a w8 hA hW12 => ?_)
        have hpf := prop_fst L2 pre.length now (q.1, p1) hkL
        have hpL : (propL L2 pre.length now (q.1, p1)).length = n := by
          have := congrArg List.length hpf
          simpa [hlL] using this
        obtain ⟨q3, hq3, hq3b⟩ := fst_at hpf pre.length _ hq2
        refine hB bb fb des f (tkOf S2 (propL L2 pre.length now (q.1, p1)) pre.length (q.1, p1)) a w8 (htl _ S2 hpL) htf ?_ ?_
        · have e1 : (tkOf S2 (propL L2 pre.length now (q.1, p1)) pre.length (q.1, p1)).S.b = S.b := hSb
          have e2 : (tkOf S2 (propL L2 pre.length now (q.1, p1)) pre.length (q.1, p1)).q.1 = q.1 := by simp only [tkOf, hq3, Option.getD_some, hq3b, hq2b]
          simp only [frT, e1, e2]
          exact hA
        · rw [tkOf_ps _ _ _ _ (by omega)]
          refine (show WI w D (memS S2 (propL L2 pre.length now (q.1, p1)) ++ [flE fb f, bpE bb b]) w8 from hW12).like ?_
          refine perm_of_cnt fun x => ?_
          simp only [List.map_append, List.map_cons, List.map_nil, cnt_append, cnt_cons, cnt_nil, tkOf]
          omega
  have hps : All [IxOk (wr ((pre.length : Int) + 1 - 1)) n 0 1 (ptrs pre).length, (true = true → PureCall Try.prog 18 [i64 now] (.bool (momentB now))), ((!!momentB now) = true → PureCall Try.prog 19 [b.val] (.bool (rightB b)))] :=
    ⟨hix, fun _ => moment_any now, fun _ => right_any b⟩
  refine calls_pk (ys := [pv S.b 0, sv (i64 ((pre.length : Int) + 1)), sv b.val, sv (i64 now)]) Try.func6 (body := b27) rfl fun a hA => ?_
  have hWs : WI w D ([spE S n 1, arrF S pre q post 3, mapE S, portE q] ++ (pre ++ post).map portE) w := hD ▸ (WI.start hO).like (focus_n S pre q post 1 3 n hn)
  cases hz : (b.kind == 0) with
  | true =>
    refine pk_runF fit safe 300 [.inl, .d false, .ix 1 0, .pure (.bool (momentB now)), .pure (.bool (rightB b)), .d false, .d false, .d false, .d true, .cut [0, 0, 1, 1, 1, 1, 1, 1, 1, 1]] [true, true, true, true, true, true] [0, 3, 9, 6, 10, 11, 12]
      (fun ν => ⟨[cond (decide ((pre.length : Int) + 1 < 1)) true (decide ((pre.length : Int) + 1 > (n : Int))), cond (!momentB now) true (!rightB b), !q.2.h.up, b.kind == 128, b.kind == 0], [false, false, false, false, true], _,
        .stop (kAt b27 [0, 0, 1, 1, 1, 1, 1, 1, 1, 1]) (frT S q.1 (ν 0).1 (ν 56).1 now (desB 12)) [spE S n 1, arrF S pre (q.1, { q.2 with edge := false }) post 3, mapE S, portE (q.1, { q.2 with edge := false }), bpE (ν 0).1 b, flE (ν 56).1 12]⟩)
      hA hWs (fun ν => by kernel_rfl) (fun _ => by simp [hm, hr, hup, hkd, hz]; omega) (fun _ => hps) (fun ν a w1 hA hW => ?_)
    refine hAa (ν 0).1 (ν 56).1 (desB 12) 12 a w1 ?_ hA (hW.like (focus_x S pre (q.1, { q.2 with edge := false }) post 1 3 n hn [bpE (ν 0).1 b, flE (ν 56).1 12]).symm)
    rw [← hfin, takeOf, hn]
    have : flagsOf b = 12 := by simp [flagsOf, hz]
    rw [this]
  | false =>
    refine pk_runF fit safe 300 [.inl, .d false, .ix 1 0, .pure (.bool (momentB now)), .pure (.bool (rightB b)), .d false, .d false, .d false, .d false, .cut [0, 0, 1, 1, 1, 1, 1, 1, 1, 1]] [true, true, true, true, true, true] [0, 3, 9, 6, 10, 11, 12]
      (fun ν => ⟨[cond (decide ((pre.length : Int) + 1 < 1)) true (decide ((pre.length : Int) + 1 > (n : Int))), cond (!momentB now) true (!rightB b), !q.2.h.up, b.kind == 128, b.kind == 0], [false, false, false, false, false], _,
        .stop (kAt b27 [0, 0, 1, 1, 1, 1, 1, 1, 1, 1]) (frT S q.1 (ν 0).1 (ν 56).1 now (desB b.flags)) [spE S n 1, arrF S pre (q.1, { q.2 with edge := false }) post 3, mapE S, portE (q.1, { q.2 with edge := false }), bpE (ν 0).1 b, flE (ν 56).1 b.flags]⟩)
      hA hWs (fun ν => by kernel_rfl) (fun _ => by simp [hm, hr, hup, hkd, hz]; omega) (fun _ => hps) (fun ν a w1 hA hW => ?_)
    refine hAa (ν 0).1 (ν 56).1 (desB b.flags) b.flags a w1 ?_ hA (hW.like (focus_x S pre (q.1, { q.2 with edge := false }) post 1 3 n hn [bpE (ν 0).1 b, flE (ν 56).1 b.flags]).symm)
    rw [← hfin, takeOf, hn]
    have : flagsOf b = b.flags := by simp [flagsOf, hz]
    rw [this]
end Go.Proofs.Ytbbpmhbeohpmnaa
