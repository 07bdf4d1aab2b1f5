/- What stays as it is: ports' numbers and costs. -/
import Derived.Test.YtbbpmhbeohpmnaaSpT
namespace Go.Proofs.Ytbbpmhbeohpmnaa
open Rx Go.RowKit

theorem hdr_append (A B : List (Nat × Port)) : hdr (A ++ B) = hdr A ++ hdr B := by simp [hdr]
theorem hdr_set {L : List (Nat × Port)} {k : Nat} {q q' : Nat × Port} (h : L[k]? = some q) (hp : q'.2.h.port = q.2.h.port) (hc : q'.2.h.cost = q.2.h.cost) : hdr (L.set k q') = hdr L := by
  simp only [hdr, List.map_set]
  exact set_same (by simp [h, hp, hc])
theorem prop_hdr (L : List (Nat × Port)) (k : Nat) (now : Int) (q : Nat × Port) (hk : k < L.length) : hdr (propL L k now q) = hdr L := by
  have e : hdr (allQ ((L[k]?).getD q).2 k now L) = hdr L := by
    apply List.ext_getElem?
    intro i
    simp only [hdr, List.getElem?_map, allQ_get]
    cases L[i]? with
    | none => rfl
    | some x =>
      simp only [Option.map_some, propQ]
      split
      · rfl
      · split <;> rfl
  unfold propL
  rw [← e]
  have hx : (allQ ((L[k]?).getD q).2 k now L)[k]? = some L[k] := by simp [allQ_get, hk, propQ]
  exact hdr_set hx (by simp [hk]) (by simp [hk])
theorem hears_hdr (p : Port) (b : Bpdu) (now : Int) : (hears p b now).h.port = p.h.port ∧ (hears p b now).h.cost = p.h.cost := by
  unfold hears
  split <;> exact ⟨rfl, rfl⟩

def takeL (S : Sp) (L : List (Nat × Port)) (k : Nat) (b : Bpdu) (now : Int) : Sp × List (Nat × Port) := match L[k]? with
  | some q => ((takeOf S (L.take k) q (L.drop (k + 1)) b now).S, (takeOf S (L.take k) q (L.drop (k + 1)) b now).ps)
  | none => (S, L)

theorem tkA_ok (f : Int) (des : Bool) (b : Bpdu) (now : Int) (t : Tk) : hdr (tkA f des b now t).ps = hdr t.ps ∧ (tkA f des b now t).S.b = t.S.b ∧ (tkA f des b now t).ps.map (·.1) = t.ps.map (·.1) := by
  have hl : (t.pre ++ (t.q.1, hears t.q.2 b now) :: t.post).length = t.pre.length + (t.post.length + 1) := by simp
  have hL : ∀ L : List (Nat × Port), L = (reckonOf t.S (t.pre ++ (t.q.1, hears t.q.2 b now) :: t.post) now).2 → t.pre.length < L.length := fun L h => by rw [h, reckon_len]; simp
  have hh : hdr (t.pre ++ (t.q.1, hears t.q.2 b now) :: t.post) = hdr t.ps := by
    have := hears_hdr t.q.2 b now
    simp [Tk.ps, hdr, this.1, this.2]
  have hp : (t.pre ++ (t.q.1, hears t.q.2 b now) :: t.post).map (·.1) = t.ps.map (·.1) := by simp [Tk.ps]
  unfold tkA
  split
  · split
    · refine ⟨?_, reckon_b _ _ _, ?_⟩
      · rw [tkOf_ps _ _ _ _ (by rw [propL, List.length_set, allQ_len]; exact hL _ rfl), prop_hdr _ _ _ _ (hL _ rfl), reckon_hdr, hh]
      · rw [tkOf_ps _ _ _ _ (by rw [propL, List.length_set, allQ_len]; exact hL _ rfl), prop_fst _ _ _ _ (hL _ rfl), reckon_fst, hp]
    · refine ⟨?_, reckon_b _ _ _, ?_⟩
      · rw [tkOf_ps _ _ _ _ (hL _ rfl), reckon_hdr, hh]
      · rw [tkOf_ps _ _ _ _ (hL _ rfl), reckon_fst, hp]
  · exact ⟨rfl, rfl, rfl⟩

theorem tkB_ok (n : Nat) (des : Bool) (f : Int) (b : Bpdu) (now : Int) (t : Tk) : hdr (tkB n des f b now t).ps = hdr t.ps ∧ (tkB n des f b now t).S.b = t.S.b ∧ (tkB n des f b now t).ps.map (·.1) = t.ps.map (·.1) := by
  unfold tkB
  split
  · refine ⟨by simp [Tk.ps, hdr, fwdP], ?_, by simp [Tk.ps]⟩
    simp only [fwdS]
    split <;> rfl
  · exact ⟨rfl, rfl, rfl⟩
theorem tkC_ok (n : Nat) (f now : Int) (t : Tk) : hdr (tkC n f now t).ps = hdr t.ps ∧ (tkC n f now t).S.b = t.S.b ∧ (tkC n f now t).ps.map (·.1) = t.ps.map (·.1) := by
  unfold tkC
  split
  · exact ⟨rfl, rfl, rfl⟩
  · exact ⟨rfl, rfl, rfl⟩
theorem takeOf_ok (S : Sp) (pre : List (Nat × Port)) (q : Nat × Port) (post : List (Nat × Port)) (b : Bpdu) (now : Int) :
    hdr (takeOf S pre q post b now).ps = hdr (pre ++ q :: post) ∧ (takeOf S pre q post b now).S.b = S.b ∧ (takeOf S pre q post b now).ps.map (·.1) = (pre ++ q :: post).map (·.1) := by
  unfold takeOf
  have a1 := tkC_ok (pre.length + (post.length + 1)) (flagsOf b) now (tkB (pre.length + (post.length + 1)) (desB (flagsOf b)) (flagsOf b) b now (tkA (flagsOf b) (desB (flagsOf b)) b now ⟨S, pre, (q.1, { q.2 with edge := false }), post⟩))
  have a2 := tkB_ok (pre.length + (post.length + 1)) (desB (flagsOf b)) (flagsOf b) b now (tkA (flagsOf b) (desB (flagsOf b)) b now ⟨S, pre, (q.1, { q.2 with edge := false }), post⟩)
  have a3 := tkA_ok (flagsOf b) (desB (flagsOf b)) b now ⟨S, pre, (q.1, { q.2 with edge := false }), post⟩
  refine ⟨a1.1.trans (a2.1.trans (a3.1.trans ?_)), a1.2.1.trans (a2.2.1.trans a3.2.1), a1.2.2.trans (a2.2.2.trans (a3.2.2.trans ?_))⟩
  · simp [Tk.ps, hdr]
  · simp [Tk.ps]

theorem take_c (S : Sp) (L : List (Nat × Port)) (hf : Fair L) (k : Nat) {q : Nat × Port} (hq : L[k]? = some q) (hup : q.2.h.up = true) (b : Bpdu) (hr : rightB b = true) (hk : b.kind ≠ 128) (now : Int) (hm : momentB now = true) :
    Turns Try.prog (memS S L) 6 [ptr S.b, i64 ((k : Int) + 1), b.val, i64 now] (i64 0) (memS (takeL S L k b now).1 (takeL S L k b now).2) := by
  obtain ⟨hk', hqe⟩ := List.getElem?_eq_some_iff.1 hq
  have e : L = L.take k ++ q :: L.drop (k + 1) := by rw [← hqe, ← List.drop_eq_getElem_cons hk', List.take_append_drop]
  have hlp : (L.take k).length = k := by rw [List.length_take]; omega
  have hf' : Fair (L.take k ++ q :: L.drop (k + 1)) := e ▸ hf
  have := take_at S (L.take k) q (L.drop (k + 1)) hf' b hr hk hup now hm
  rw [hlp, ← e] at this
  simp only [takeL, hq]
  exact this
theorem takeL_ok (S : Sp) (L : List (Nat × Port)) (k : Nat) (b : Bpdu) (now : Int) : hdr (takeL S L k b now).2 = hdr L ∧ (takeL S L k b now).1.b = S.b ∧ (takeL S L k b now).2.map (·.1) = L.map (·.1) := by
  unfold takeL
  split
  · rename_i q hq
    obtain ⟨hk', hqe⟩ := List.getElem?_eq_some_iff.1 hq
    have e : L.take k ++ q :: L.drop (k + 1) = L := by rw [← hqe, ← List.drop_eq_getElem_cons hk', List.take_append_drop]
    have := takeOf_ok S (L.take k) q (L.drop (k + 1)) b now
    rw [e] at this
    exact this
  · exact ⟨rfl, rfl, rfl⟩

theorem goes_h (S : Sp) (n j : Nat) (p : Port) (now : Int) : (goesOf S n j p now).2.h = p.h := by
  unfold goesOf
  repeat' split
  all_goals rfl
theorem goAt_hdr (S : Sp) (ps : List (Nat × Port)) (now : Int) : ∀ k, hdr (goAt S ps now k).2 = hdr ps
  | 0 => rfl
  | k + 1 => by
    have ih := goAt_hdr S ps now k
    simp only [goAt]
    split
    · rename_i q hq
      rw [hdr_set hq (by rw [goes_h]) (by rw [goes_h])]
      exact ih
    · exact ih
theorem sayAt_ok (S : Sp) (ps : List (Nat × Port)) (due : Bool) (now : Int) : ∀ k, hdr (sayAt S ps due now k).1 = hdr ps ∧ (sayAt S ps due now k).1.map (·.1) = ps.map (·.1)
  | 0 => ⟨rfl, rfl⟩
  | k + 1 => by
    have ih := sayAt_ok S ps due now k
    simp only [sayAt]
    split
    · rename_i q hq
      split
      · exact ih
      · refine ⟨by rw [← ih.1]; exact hdr_set hq rfl rfl, ?_⟩
        rw [← ih.2]
        simp only [List.map_set]
        exact set_same (by simp [hq, replP])
    · exact ih
theorem tick_ok (S : Sp) (ps : List (Nat × Port)) (now : Int) : hdr (tickOf S ps now).ps = hdr ps ∧ (tickOf S ps now).S.b = S.b ∧ (tickOf S ps now).ps.map (·.1) = ps.map (·.1) := by
  have e1 : hdr (ps.map (hasP now)) = hdr ps := by simp [hdr, hasP]
  have e2 : (ps.map (hasP now)).map (·.1) = ps.map (·.1) := by simp [hasP]
  simp only [tickOf]
  refine ⟨?_, ?_, ?_⟩
  · rw [(sayAt_ok _ _ _ _ _).1, goAt_hdr, reckon_hdr, e1]
  · have : (lastS (goAt (reckonOf S (ps.map (hasP now)) now).1 (reckonOf S (ps.map (hasP now)) now).2 now ps.length).1 now).b = (goAt (reckonOf S (ps.map (hasP now)) now).1 (reckonOf S (ps.map (hasP now)) now).2 now ps.length).1.b := by
      unfold lastS; split <;> rfl
    rw [this, (goAt_ok _ _ _ _).1, reckon_b]
  · rw [(sayAt_ok _ _ _ _ _).2, (goAt_ok _ _ _ _).2, reckon_fst, e2]
theorem len_of_fst {A B : List (Nat × Port)} (h : A.map (·.1) = B.map (·.1)) : A.length = B.length := by have := congrArg List.length h; simpa using this
end Go.Proofs.Ytbbpmhbeohpmnaa
