/- gemel/gemellaw18.SpanEars is proved: for every input she returns true, and her input reads behind the call as it did; there are no conditions beyond the statement's own. -/
import Derived.Test.YtbbpmhbeohpmnaaRows
import Derived.WalkKit
import Derived.ProofKit
import Derived.OpenShut
import Derived.ShutString
import Derived.ChangeOld
import Derived.Below
import Derived.Test.YtbbpmhbeohpmnaaSpEars
namespace Go.Proofs.Ytbbpmhbeohpmnaa
open Rx Go.ChangeShapes Go.WideShapes Go.ChangeAt Go.RowKit
set_option linter.unusedVariables false

theorem own : ownKnob Try.prog.godebug = none := by kernel_rfl
theorem laidOut : laidOutB Try.prog = true := by kernel_rfl

def IsRow (k : IntKind) (w : World) (a : Option Addr) (len cap : Nat) (zs : List Int) : Prop :=
  (a = none ∧ len = 0 ∧ cap = 0 ∧ zs = []) ∨
  ∃ x, a = some x ∧ len ≤ cap ∧ cap ≤ maxLen ∧ zs.length = cap ∧ (∀ i, i < zs.length → w.cell? (x.add i) = some (.int k (zs.getD i 0))) ∧ ∀ n ∈ zs, (Lit.int k n).wf = true

theorem cell_of_heap {w w' : World} {a : Addr} (h : w.heap[a.block]? = w'.heap[a.block]?) : w.cell? a = w'.cell? a := by
  unfold World.cell?
  rw [h]

/-- What lies behind a slice of integers, as it is known. -/
theorem slice_of_row {w : World} {a : Option Addr} {len cap : Nat} {zs : List Int} (h : IsRow .i64 w a len cap zs) :
    ∃ (I : List HE) (cs : List Int), cs.length = len ∧ Owns w I ∧ SliceOf I (.slice a len cap) 1 cs.length (ints cs) := by
  rcases h with ⟨rfl, rfl, rfl, rfl⟩ | ⟨x, rfl, hl, hm, hz, hcell, hw⟩
  · exact ⟨[], [], rfl, ⟨fun e he => (List.not_mem_nil he).elim, by simp [blocksOf]⟩, rfl, .inl ⟨rfl, rfl⟩⟩
  · have hlen : (zs.take len).length = len := by rw [List.length_take]; omega
    rcases Nat.eq_zero_or_pos zs.length with h0 | h0
    · refine ⟨[], zs.take len, hlen, ⟨fun e he => (List.not_mem_nil he).elim, by simp [blocksOf]⟩, by simp [ints], .inr ⟨x, cap, by rw [hlen], fun h => by omega, fun w _ j y hj => ?_⟩⟩
      have : (zs.take len) = [] := List.eq_nil_of_length_eq_zero (by omega)
      rw [this] at hj
      simp [ints] at hj
    · have hc0 := hcell 0 h0
      obtain ⟨b, off, rfl, hat⟩ := ints_at hcell h0
      obtain ⟨o, ho⟩ : ∃ o, w.heap[b]? = some o := by
        cases hb : w.heap[b]? with
        | some o => exact ⟨o, rfl⟩
        | none =>
          have := hat 0 h0
          unfold World.cell? at this
          simp [hb] at this
      have hO : Owns w [⟨b, .other o⟩] := ⟨fun e he _ => by
        rw [List.mem_singleton] at he
        subst he
        exact ho, by simp [blocksOf]⟩
      refine ⟨[⟨b, .other o⟩], zs.take len, hlen, hO, by simp [ints], .inr ⟨⟨b, off, none⟩, cap, by rw [hlen], fun _ => rfl, fun w1 h1 j y hj => ?_⟩⟩
      have hb1 : w1.heap[b]? = some o := h1.1 ⟨b, .other o⟩ (by simp) rfl
      simp only [ints, List.getElem?_map, Option.map_eq_some_iff] at hj
      obtain ⟨n, hn, rfl⟩ := hj
      obtain ⟨hj1, hn⟩ := List.getElem?_eq_some_iff.1 hn
      have hj2 : j < zs.length := by rw [hlen] at hj1; omega
      have := hat j hj2
      rw [← cell_of_heap (w := w1) (a := ⟨b, off + j, none⟩) (by rw [hb1]; exact ho.symm)] at this
      rw [this, ← hn]
      simp [List.getD_eq_getElem?_getD, hj2]

theorem ears_walk (me o : BId) (a1 : Option Addr) (len1 cap1 : Nat) (z1 : List Int) (port : Int) (w : World) (w1 : IsRow .i64 w a1 len1 cap1 z1) :
    Calls Try.prog 3 #[idsV me o, .slice a1 len1 cap1, i64 port] w fun e w' => e = .returned (.bool true) ∧ Below w.heap.size w w' := by
  obtain ⟨I, cs, hl, hO, hv⟩ := slice_of_row w1
  exact (ears_c I me o _ cs hv port w hO).mono fun e w' ⟨_, h1, h2⟩ => ⟨h1, h2.kept hO⟩

theorem u8_of {n : Int} (h : (Lit.int .u8 n).wf = true) : ∃ m : UInt8, n = (m.toNat : Int) := by
  have := bounds_u8 h
  refine ⟨UInt8.ofNat n.toNat, ?_⟩
  rw [UInt8.toNat_ofNat']
  omega

section
variable {H : Type} {enc : TypeId × Value → H} {w : World} {base : Nat} {spare : Nat → Bool} {held : Bool}
/-- An array of one-cell integers. -/
theorem trod_intsA {k : IntKind} {n : Nat} {t e : TypeId} {fuel : Nat} {cs : List Value} {x : DataW H × List MemPlace} (ht : Try.prog.underlying t = some (.array n e)) (he : Try.prog.underlying e = some (.int k)) (hc : Try.prog.cellsOf e = 1)
    (h : DataW.trod enc Try.prog w base spare held fuel t cs = some x) : cs.length = Try.prog.cellsOf t ∧ ∀ i, i < n → ∃ m, cs[i]? = some (.int k m) ∧ (Lit.int k m).wf = true := by
  obtain ⟨xs, m, rfl, rfl, hl, hx, hel⟩ := DataW.trod_array ht h
  refine ⟨hl, fun i hi => ?_⟩
  have := hel i hi
  rw [List.getElem?_eq_getElem (by omega)] at this
  obtain ⟨v, h1, _, h3⟩ := DataW.trod_int he this
  rw [hc, Nat.mul_one] at h1
  refine ⟨v, ?_, h3⟩
  have := congrArg (fun l : List Value => l[0]?) h1
  simpa [List.getElem?_take, List.getElem?_drop] using this

theorem trod_mac {fuel : Nat} {cs : List Value} {x : DataW H × List MemPlace} (h : DataW.trod enc Try.prog w base spare held fuel 23 cs = some x) : ∃ m : Mac, cs = m.cells := by
  obtain ⟨hl, he⟩ := trod_intsA (t := 23) (n := 6) (k := .u8) Try.underlying23 (by kernel_rfl) (by kernel_rfl) h
  have hl : cs.length = 6 := hl.trans (by kernel_rfl)
  match cs, hl with
  | [c0, c1, c2, c3, c4, c5], _ =>
    obtain ⟨n0, e0, f0⟩ := he 0 (by omega)
    obtain ⟨n1, e1, f1⟩ := he 1 (by omega)
    obtain ⟨n2, e2, f2⟩ := he 2 (by omega)
    obtain ⟨n3, e3, f3⟩ := he 3 (by omega)
    obtain ⟨n4, e4, f4⟩ := he 4 (by omega)
    obtain ⟨n5, e5, f5⟩ := he 5 (by omega)
    obtain ⟨m0, rfl⟩ := u8_of f0
    obtain ⟨m1, rfl⟩ := u8_of f1
    obtain ⟨m2, rfl⟩ := u8_of f2
    obtain ⟨m3, rfl⟩ := u8_of f3
    obtain ⟨m4, rfl⟩ := u8_of f4
    obtain ⟨m5, rfl⟩ := u8_of f5
    simp at e0 e1 e2 e3 e4 e5
    subst e0; subst e1; subst e2; subst e3; subst e4; subst e5
    exact ⟨⟨m0, m1, m2, m3, m4, m5⟩, rfl⟩

theorem trod_id {fuel : Nat} {cs : List Value} {x : DataW H × List MemPlace} (h : DataW.trod enc Try.prog w base spare held fuel 25 cs = some x) : ∃ m : BId, cs = m.cells := by
  obtain ⟨xs, n, rfl, rfl, hl, hlen, hf⟩ := DataW.trod_struct Try.underlying25 h
  have hl : cs.length = 7 := hl.trans (by kernel_rfl)
  match cs, hl with
  | c0 :: rest, hl =>
    have h0 : DataW.trod enc Try.prog w base spare held n 3 (((c0 :: rest).drop 0).take (Try.prog.cellsOf 3)) = xs[0]? := hf 0 _ rfl
    have h1 : DataW.trod enc Try.prog w base spare held n 23 (((c0 :: rest).drop 1).take (Try.prog.cellsOf 23)) = xs[1]? := hf 1 _ rfl
    have hlen : xs.length = 2 := hlen
    have c1 : Try.prog.cellsOf 3 = 1 := by kernel_rfl
    have c6 : Try.prog.cellsOf 23 = 6 := by kernel_rfl
    rw [c1] at h0
    rw [c6] at h1
    rw [List.getElem?_eq_getElem (by omega)] at h0 h1
    obtain ⟨p, hp, _, _⟩ := DataW.trod_int (k := .i64) (by kernel_rfl) h0
    obtain ⟨m, hm⟩ := trod_mac h1
    refine ⟨⟨p, m⟩, ?_⟩
    have e0 : [c0] = [i64 p] := by
      have : List.take 1 (List.drop 0 (c0 :: rest)) = [i64 p] := hp
      simpa using this
    have e1 : rest = m.cells := by
      have : List.take 6 (List.drop 1 (c0 :: rest)) = m.cells := hm
      rw [← this]
      simp at hl
      simp [List.take_of_length_le (Nat.le_of_eq hl)]
    simp at e0
    subst e0; subst e1
    rfl

theorem trod_ids {fuel : Nat} {cs : List Value} {x : DataW H × List MemPlace} (h : DataW.trod enc Try.prog w base spare held fuel 26 cs = some x) : ∃ me o : BId, cs = me.cells ++ o.cells := by
  obtain ⟨xs, n, rfl, rfl, hl, hlen, hf⟩ := DataW.trod_array (show Try.prog.underlying 26 = some (.array 2 25) by kernel_rfl) h
  have hl : cs.length = 14 := hl.trans (by kernel_rfl)
  have h0 := hf 0 (by omega)
  have h1 := hf 1 (by omega)
  have c7 : Try.prog.cellsOf 25 = 7 := by kernel_rfl
  rw [c7] at h0 h1
  rw [List.getElem?_eq_getElem (by omega)] at h0 h1
  obtain ⟨m, hm⟩ := trod_id h0
  obtain ⟨o, ho⟩ := trod_id h1
  refine ⟨m, o, ?_⟩
  have hm : List.take 7 (List.drop 0 cs) = m.cells := hm
  have ho : List.take 7 (List.drop 7 cs) = o.cells := ho
  rw [← hm, ← ho, List.drop_zero]
  rw [List.take_of_length_le (l := cs.drop 7) (by rw [List.length_drop]; omega), List.take_append_drop]
end

theorem okWide_array {t e : TypeId} {n : Nat} {w : World} {base : Nat} {v : Value} (ht : Try.prog.underlying t = some (.array n e)) (h : Value.okWide Try.prog w .any base t v) : ∃ cs, v = .agg cs := by
  unfold Value.okWide at h
  rw [ht] at h
  obtain ⟨cs, h1, _⟩ := h
  exact ⟨cs, h1⟩

set_option maxRecDepth 100000 in
theorem lifted (os : Os) (started : os.Started) (H : Type) (enc : TypeId × Value → H) :
    ReturnsInHanded {} Try.checked os 3 .any (Rows.spanEarsSpec.pre6 enc Try.prog Try.f3 Rows.spanEarsRow.domain false) (Rows.spanEarsSpec.post enc Try.prog Try.f3 false true false false) := by
  refine returnsInHanded_of_change (C := Try.checked) own started (by kernel_rfl) Try.func3
    (ChangeSpec.witness6 (enc := enc) (C := Try.checked) false ⟨#[], #[.agg #[.int .i64 0, .int .u8 0, .int .u8 0, .int .u8 0, .int .u8 0, .int .u8 0, .int .u8 0, .int .i64 0, .int .u8 0, .int .u8 0, .int .u8 0, .int .u8 0, .int .u8 0, .int .u8 0], .slice none 0 0, .int .i64 0], []⟩ 8 (by kernel_rfl) (by kernel_rfl) (by kernel_rfl) (by kernel_rfl)) ?_
  intro W base args ds gs before hval0 hW hcnd _
  have hval : ∀ (j : Nat) t v, Try.f3.params[j]? = some t → args[j]? = some v → Value.okWide Try.prog W .any base t v := hval0
  have hW' := hW
  obtain ⟨p, q, hA0, hV, rfl, hfz, hnd⟩ := hW
  have hA : DataW.TrodAll enc Try.prog W 0 (fun _ => true) true Try.f3.params.toList args.toList ds p := hA0
  rw [Try.params3] at hA hval
  obtain ⟨v0, vs0, d0, ds0, p0, q0, hargs, rfl, rfl, h0, r0⟩ := trodAll_cons hA
  obtain ⟨v1, vs1, d1, ds1, p1, q1, rfl, rfl, rfl, h1, r1⟩ := trodAll_cons r0
  obtain ⟨v2, vs2, d2, ds2, p2, q2, rfl, rfl, rfl, h2, r2⟩ := trodAll_cons r1
  obtain ⟨rfl, rfl, rfl⟩ := trodAll_nil r2
  obtain rfl : args = #[v0, v1, v2] := by cases args; simp_all
  obtain ⟨rfl, rfl⟩ := trodVars_none hV
  have k0 := h0
  have lt0 : ∀ x ∈ p0, x.block < W.heap.size := by obtain ⟨m, hm⟩ := k0; exact DataW.trod_lt m _ _ _ hm
  obtain ⟨cs0, rfl⟩ := okWide_array (show Try.prog.underlying 26 = some (.array 2 25) by kernel_rfl) (hval 0 26 v0 rfl rfl)
  obtain ⟨me, o, hids⟩ : ∃ me o : BId, cs0 = (me.cells ++ o.cells).toArray := by
    obtain ⟨fuel, hf⟩ := h0
    obtain ⟨me, o, h⟩ := trod_ids hf
    refine ⟨me, o, ?_⟩
    rw [← h]
    simp [Value.cells]
  subst hids
  obtain ⟨a1, len1, cap1, rfl⟩ := okWide_slice (show Try.prog.underlying 27 = some (.slice 3) by kernel_rfl) (hval 1 27 v1 rfl rfl)
  have k1 := h1
  have lt1 : ∀ x ∈ p1, x.block < W.heap.size := by obtain ⟨m, hm⟩ := k1; exact DataW.trod_lt m _ _ _ hm
  obtain ⟨z1, w1⟩ : ∃ zs, IsRow .i64 W a1 len1 cap1 zs := by
    obtain ⟨fuel, hf⟩ := h1
    rcases open_ints (k := .i64) (show Try.prog.underlying 27 = some (.slice 3) by kernel_rfl) (by kernel_rfl) (by kernel_rfl) hf with ⟨hcs, _⟩ | ⟨x, l, c, zs, hcs, _, hl, hm, hz, _, hcell, hwz⟩
    · simp [Value.cells] at hcs
      obtain ⟨rfl, rfl, rfl⟩ := hcs
      exact ⟨[], .inl ⟨rfl, rfl, rfl, rfl⟩⟩
    · simp [Value.cells] at hcs
      obtain ⟨rfl, rfl, rfl⟩ := hcs
      exact ⟨zs, .inr ⟨_, rfl, hl, hm, by simpa using hz, hcell, hwz⟩⟩
  obtain ⟨a2, rfl, rfl, rfl, w2⟩ := open_int (k := .i64) (show Try.prog.underlying 3 = some (.int .i64) by kernel_rfl) (hval 2 3 v2 rfl rfl) h2
  clear hA0 hval0
  refine (ears_walk me o a1 len1 cap1 z1 a2 W w1).mono fun e W' ⟨he, bel⟩ => ?_
  subst he
  exact ⟨_, rfl, _, _, _, [], _, [], hW', trodAll_mk1 (shut_bool (by kernel_rfl) _), (trodAll_cons_mk (Below.trod laidOut (by kernel_rfl) (of_decide_eq_true (by kernel_rfl)) k0 bel lt0) (trodAll_cons_mk (Below.trod laidOut (by kernel_rfl) (of_decide_eq_true (by kernel_rfl)) k1 bel lt1) (trodAll_cons_mk (shut_int (by kernel_rfl) w2) trodAll_mk0))), rfl, bel.frame _, fun h => by cases h⟩

theorem over : Rows.spanEarsRow.holds Try.pinned (OpenSpec.ofChange Rows.spanEarsSpec) :=
  OpenClaim.holds_of_wide 3 Try.f3 rfl rfl rfl rfl rfl rfl rfl ⟨rfl, rfl, rfl, rfl, rfl⟩ rfl rfl rfl rfl rfl (by kernel_rfl) Try.func3 (by kernel_rfl)
    (of_decide_eq_true (by kernel_rfl)) (by unfold Func.isWrapper; first | (rw [if_pos (by decide +kernel)]; kernel_rfl) | (rw [if_neg (by decide +kernel)]; exact ⟨rfl, rfl⟩))
    (fun os started H enc _ => lifted os started H enc)

/-- The statement. -/
theorem proved : Rows.SpanEarsSaid := over
#print axioms proved
end Go.Proofs.Ytbbpmhbeohpmnaa
