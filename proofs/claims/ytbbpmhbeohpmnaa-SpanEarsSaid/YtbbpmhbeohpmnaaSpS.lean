/- A bridge all of whose ports are up. -/
import Derived.Test.YtbbpmhbeohpmnaaSpR
namespace Go.Proofs.Ytbbpmhbeohpmnaa
open Rx Go.RowKit

theorem rkStep_h (S : Sp) (n j : Nat) (p : Port) (r now : Int) : (rkStep S n j p r now).2.h = p.h := by
  unfold rkStep rk1
  repeat' split
  all_goals rfl
theorem rk_h (S : Sp) (ps : List (Nat × Port)) (roles : List Int) (now : Int) (h : roles.length = ps.length) : ∀ k, k ≤ ps.length → (rkAt S ps roles now k).2.map (fun q => q.2.h) = (ps.take k).map (fun q => q.2.h)
  | 0, _ => rfl
  | k + 1, hk => by
    have ih := rk_h S ps roles now h k (by omega)
    have h1 : k < ps.length := by omega
    have h2 : k < roles.length := by omega
    simp only [rkAt, List.getElem?_eq_getElem h1, List.getElem?_eq_getElem h2, List.map_append, ih, List.take_succ_eq_append_getElem h1, List.map_cons, List.map_nil, rkStep_h]
theorem reckon_h (S : Sp) (ps : List (Nat × Port)) (now : Int) : (reckonOf S ps now).2.map (fun q => q.2.h) = ps.map (fun q => q.2.h) := by
  have := rk_h (withBest S (selB S ps)) ps (selR S ps) now (selR_len S ps) ps.length (Nat.le_refl _)
  rwa [List.take_length] at this
theorem hdr_of_h {A B : List (Nat × Port)} (h : A.map (fun q => q.2.h) = B.map (fun q => q.2.h)) : hdr A = hdr B := by
  have e : ∀ l : List (Nat × Port), hdr l = (l.map (fun q => q.2.h)).map fun h => (h.port, h.cost) := fun l => by simp [hdr]
  rw [e, e, h]
theorem reckon_hdr (S : Sp) (ps : List (Nat × Port)) (now : Int) : hdr (reckonOf S ps now).2 = hdr ps := hdr_of_h (reckon_h S ps now)

def upOf (S : Sp) (ps : List (Nat × Port)) (k : Nat) (up edge : Bool) (now : Int) : Sp × List (Nat × Port) := match ps[k]? with
  | some q => reckonOf S (ps.set k (q.1, upP q.2 up edge)) now
  | none => (S, ps)

theorem up_c (S : Sp) (ps : List (Nat × Port)) (hf : Fair ps) (k : Nat) (hk : k < ps.length) (up edge : Bool) (now : Int) (hm : momentB now = true) :
    Turns Try.prog (memS S ps) 16 [ptr S.b, i64 ((k : Int) + 1), .bool up, .bool edge, i64 now] (i64 0) (memS (upOf S ps k up edge now).1 (upOf S ps k up edge now).2) := by
  obtain ⟨pre, q, post, e1, e2, e3, e4, e5⟩ := split_ix hk
  subst e1
  have := up_at S pre q post _ e4 hf up edge now hm
  rw [e2] at this
  simp only [upOf, e3, e5]
  exact this
theorem up_fair {S : Sp} {ps : List (Nat × Port)} {k : Nat} {up edge : Bool} {now : Int} (hf : Fair ps) : Fair (upOf S ps k up edge now).2 := by
  refine hf.of ?_
  unfold upOf
  split
  · rename_i q hq
    rw [reckon_hdr]
    simp only [hdr, List.map_set]
    exact set_same (by simp [hq, upP])
  · rfl
theorem up_same (S : Sp) (ps : List (Nat × Port)) (k : Nat) (up edge : Bool) (now : Int) : (upOf S ps k up edge now).1.b = S.b ∧ (upOf S ps k up edge now).2.length = ps.length := by
  unfold upOf
  split
  · exact ⟨reckon_b _ _ _, by rw [reckon_len]; simp⟩
  · exact ⟨rfl, rfl⟩

def madeAt (S : Sp) (ps : List (Nat × Port)) : Nat → Sp × List (Nat × Port)
  | 0 => (S, ps)
  | k + 1 => upOf (madeAt S ps k).1 (madeAt S ps k).2 k true false 0
theorem made_same (S : Sp) (ps : List (Nat × Port)) (hf : Fair ps) : ∀ k, (madeAt S ps k).1.b = S.b ∧ (madeAt S ps k).2.length = ps.length ∧ Fair (madeAt S ps k).2
  | 0 => ⟨rfl, rfl, hf⟩
  | k + 1 => by
    obtain ⟨h1, h2, h3⟩ := made_same S ps hf k
    have := up_same (madeAt S ps k).1 (madeAt S ps k).2 k true false 0
    exact ⟨this.1.trans h1, this.2.trans h2, up_fair h3⟩

noncomputable abbrev bMd : Code := bodyOf Try.f5
abbrev frM (v : Value) (sb : Nat) (k : Int) : Fr := [(1, .val (sv v)), (6, .val (sv (ptr sb))), (8, .val (sv (i64 k)))]

theorem made_bad (I : List HE) (me : BId) (v : Value) (cs : List Int) (hv : SliceIn I v (ints cs)) (h0 : 0 < cs.length) (hn : cs.length ≤ 70) (hok : newOk me cs = false) :
    TurnC Try.prog I 5 [me.val, v] (fun _ => .tuple #[.pointer none, .bool false]) (fun _ => I) := by
  intro w hO
  have hnew := new_c I me v cs hv h0 hn
  simp only [hok, Bool.false_eq_true, if_false] at hnew
  refine calls_pk (ys := [sv me.val, sv v]) Try.func5 (body := bMd) rfl fun a hA => ?_
  refine pk_run2 (w0 := w) (D := blocksOf I) fit safe 200 [.stop, .d true] [.run, callF (fun _ => .tuple #[.pointer none, i64 1]) (fun _ => I)] [] []
    (fun ν => ⟨[cond (1 != 0) true true], [true], [_], .ret (.tuple #[.pointer none, .bool false]) [] I⟩)
    hA (H := []) (WI.start hO) (fun ν => by kernel_rfl) (fun _ => rfl) (fun _ => hnew) (fun ν w1 hW => ⟨fun _ => (0, 0), rfl, hW [] rfl⟩)

theorem newPs_fair (me : BId) (cs : List Int) (ξ : Xi) (h0 : 0 < cs.length) (hn : cs.length ≤ 70) (hok : newOk me cs = true) : Fair (newPs cs ξ) := by
  have hs : (newPs cs ξ).map (·.2) = portsN cs cs.length := tagL_snd _ _
  refine ⟨by rw [newPs, tagL_len, portsN_len]; exact h0, portsN_num cs cs.length hn _ hs, ?_⟩
  rw [fair_snd (ps' := tagL (fun _ => 0) (portsN cs cs.length)) (by rw [hs, tagL_snd])]
  simp only [newOk, Bool.and_eq_true, decide_eq_true_eq] at hok
  exact hok.2

def madeOf (me : BId) (cs : List Int) (ξ : Xi) : Sp × List (Nat × Port) := madeAt (newS me cs.length ξ) (newPs cs ξ) cs.length

theorem made_good (I : List HE) (me : BId) (v : Value) (cs : List Int) (hv : SliceIn I v (ints cs)) (h0 : 0 < cs.length) (hn : cs.length ≤ 70) (hok : newOk me cs = true) :
    TurnC Try.prog I 5 [me.val, v] (fun ξ => .tuple #[ptr (ξ 0).1, .bool true]) (fun ξ => I ++ memS (madeOf me cs ξ).1 (madeOf me cs ξ).2) := by
  intro w hO
  have hnew := new_c I me v cs hv h0 hn
  simp only [hok, if_true] at hnew
  have hv' : ∃ (a : Addr) (cap : Nat), v = .slice (some a) cs.length cap := by
    rcases hv with ⟨h, _⟩ | ⟨a, cap, h1, h2⟩
    · simp [ints] at h; subst h; simp at h0
    · rw [ints_len] at h1
      exact ⟨a, cap, h1⟩
  obtain ⟨av, cap, rfl⟩ := hv'
  refine calls_pk (ys := [sv me.val, sv (.slice (some av) cs.length cap)]) Try.func5 (body := bMd) rfl fun a hA => ?_
  refine pk_run2 (w0 := w) (D := blocksOf I) fit safe 200 [.stop, .d false] [.run, callF (fun ξ => .tuple #[ptr (ξ 0).1, i64 0]) (fun ξ => I ++ memS (newS me cs.length ξ) (newPs cs ξ))] [] [1, 6, 8]
    (fun ν => ⟨[false], [false], [_], .stop (kAt bMd [0, 1, 0, 1, 1, 1]) (frM (.slice (some av) cs.length cap) (ν 1 0).1 1) [] (I ++ memS (newS me cs.length (ν 1)) (newPs cs (ν 1)))⟩)
    hA (H := []) (WI.start hO) (fun ν => by kernel_rfl) (fun _ => rfl) (fun _ => hnew) (fun ν a w1 hA hW => ?_)
  have hf := newPs_fair me cs (ν 1) h0 hn hok
  have hl : (newPs cs (ν 1)).length = cs.length := by rw [newPs, tagL_len, portsN_len]
  have hms := made_same (newS me cs.length (ν 1)) (newPs cs (ν 1)) hf
  refine pk_range (b := child 0 (sub bMd [0, 1, 0, 1, 1, 1])) rfl cs.length (fun k a w1 => Agrees 34 (frM (.slice (some av) cs.length cap) (ν 1 0).1 ((k : Int) + 1)) a ∧
    WI w (blocksOf I) (I ++ memS (madeAt (newS me cs.length (ν 1)) (newPs cs (ν 1)) k).1 (madeAt (newS me cs.length (ν 1)) (newPs cs (ν 1)) k).2) w1) ?_ ?_ 0 a w1 (Nat.zero_le _) ⟨hA, hW⟩
  · rintro k a w1 hk ⟨hA, hW⟩ T hT
    obtain ⟨g1, g2, g3⟩ := hms k
    have hup := up_c (madeAt (newS me cs.length (ν 1)) (newPs cs (ν 1)) k).1 (madeAt (newS me cs.length (ν 1)) (newPs cs (ν 1)) k).2 g3 k (by omega) true false 0 rfl
    have hst : madeAt (newS me cs.length (ν 1)) (newPs cs (ν 1)) (k + 1) = upOf (madeAt (newS me cs.length (ν 1)) (newPs cs (ν 1)) k).1 (madeAt (newS me cs.length (ν 1)) (newPs cs (ν 1)) k).2 k true false 0 := rfl
    rw [hst] at hT
    rw [g1, show (newS me cs.length (ν 1)).b = (ν 1 0).1 from rfl] at hup
    generalize madeAt (newS me cs.length (ν 1)) (newPs cs (ν 1)) k = M at hW hup hT
    have hupI := (hup.c.frame I).alike (B := I ++ memS M.1 M.2) (B' := fun _ => I ++ memS (upOf M.1 M.2 k true false 0).1 (upOf M.1 M.2 k true false 0).2) (perm_of_cnt fun y => by simp only [keysF_append, cnt_append]; omega) (fun _ => perm_of_cnt fun y => by simp only [keysF_append, cnt_append]; omega)
    refine pk_run2 (H := []) fit safe 200 [.d true, .stop, .d false] [.run, callF (fun _ => i64 0) (fun _ => I ++ memS (upOf M.1 M.2 k true false 0).1 (upOf M.1 M.2 k true false 0).2)] [] [1, 6, 8]
      (fun _ => ⟨[decide ((k : Int) + 1 ≤ (cs.length : Int)), false], [true, false], [_], .stop (.goal T :: kRest bMd [0, 1, 0, 1, 1, 1]) (frM (.slice (some av) cs.length cap) (ν 1 0).1 (wr ((k : Int) + 1 + 1))) [] (I ++ memS (upOf M.1 M.2 k true false 0).1 (upOf M.1 M.2 k true false 0).2)⟩)
      hA hW (fun ν => by kernel_rfl) (fun _ => by simp; omega) (fun _ => hupI) (fun ν a w2 hA hW2 => ?_)
    refine hT a w2 ⟨?_, hW2⟩
    have e : wr ((k : Int) + 1 + 1) = ((k + 1 : Nat) : Int) + 1 := wr_int (k := k + 1) (by omega)
    rw [e] at hA
    exact hA
  · rintro a w1 ⟨hA, hW⟩ T
    refine pk_run2 (H := []) fit safe 200 [.d false] [] [] []
      (fun _ => ⟨[decide ((cs.length : Int) + 1 ≤ (cs.length : Int))], [false], [], .ret (.tuple #[ptr (ν 1 0).1, .bool true]) [] (I ++ memS (madeOf me cs (ν 1)).1 (madeOf me cs (ν 1)).2)⟩)
      hA hW (fun ν => by kernel_rfl) (fun _ => by simp; omega) (fun _ => trivial) (fun _ w2 hW2 => ⟨ν 1, rfl, hW2 [] rfl⟩)
end Go.Proofs.Ytbbpmhbeohpmnaa
