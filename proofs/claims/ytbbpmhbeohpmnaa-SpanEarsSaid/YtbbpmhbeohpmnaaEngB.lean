/- The executor is sound: whatever order a phase of a region takes. -/
import Derived.Test.YtbbpmhbeohpmnaaEngA
namespace Go.Proofs.Ytbbpmhbeohpmnaa.Rx
open Go.RowKit
variable {P : Program} {Z : World → Prop}

def exB (i0 : Nat) (U : List Nat) (j : Nat) : Bool := !(U.contains (j - i0))

theorem exB_iff {i0 : Nat} {U : List Nat} {q : Nat} : exB i0 U (i0 + q) = true ↔ q ∉ U := by
  simp [exB]

section
variable (n : Nat) (l : List Oper) (fr : Fr) (H : List HE) (i0 N : Nat) (w0 : World) (D : List Nat)

structure PInv (U : List Nat) (ent : List En) (a : Act) (w : World) : Prop where
  defers : a.defers = []
  size : a.tmps.size = n
  base : ∀ t, (∀ q o, q < N → q ∉ U → l[i0 + q]? = some o → o.dst ≠ some t) → (look fr t).holds a t
  done : ∀ q e t, q < N → q ∉ U → ent[q]? = some e → e.dst = some t → e.se.holds a t
  world : WIf w0 D (fnOf (curL (exB i0 U) ent H)) w
end

theorem exists_least : ∀ (U : List Nat), U ≠ [] → ∃ q ∈ U, ∀ q' ∈ U, q ≤ q'
  | [], h => absurd rfl h
  | [a], _ => ⟨a, by simp, by simp⟩
  | a :: b :: r, _ => by
    obtain ⟨q, h1, h2⟩ := exists_least (b :: r) (by simp)
    by_cases h : a ≤ q
    · exact ⟨a, by simp, fun q' hq => by rcases List.mem_cons.1 hq with rfl | hq; exact Nat.le_refl _; exact Nat.le_trans h (h2 q' hq)⟩
    · exact ⟨q, List.mem_cons_of_mem _ h1, fun q' hq => by rcases List.mem_cons.1 hq with rfl | hq; omega; exact h2 q' hq⟩

section
variable {ops : Array Oper} {n : Nat} {fr : Fr} {H : List HE} {c i0 : Nat} {hs0 : List Hint} {pos0 N : Nat} {w0 : World} {D : List Nat} {Q : Exit → Act → World → Prop}

theorem ph_get {ν : Nat → Nat × Nat} {l : List Oper} {bef : List Nat} {ent : List En} {obs : List Ob} (h : PhOk P Z n l bef fr H c i0 hs0 pos0 ν N ent obs) {q : Nat} {e : En} (he : ent[q]? = some e) :
    q < N ∧ ∃ o, l[i0 + q]? = some o ∧ e.i = i0 + q ∧ e.dst = o.dst ∧ okDst n o.dst = true ∧ WrFt e ∧ ∃ msk, bef[i0 + q]? = some msk ∧ okPair msk e.ft e.wr (ent.take q) = true := by
  have hq : q < N := by
    rcases Nat.lt_or_ge q N with h' | h'
    · exact h'
    · rw [List.getElem?_eq_none (by rw [h.len]; exact h')] at he; simp at he
  obtain ⟨o, msk, e', ob, f1, f2, _, f4, f5, _, f7⟩ := h.ev q hq
  rw [he] at f5
  obtain rfl := Option.some.inj f5
  obtain ⟨g1, g2, g3, g4⟩ := evE_fields f4
  exact ⟨hq, o, f1, g1, g2, g3, g4, msk, f2, f7⟩

/-- Operations in no order do not look where the other puts. -/
theorem ph_pair {ν : Nat → Nat × Nat} {l : List Oper} {bef : List Nat} {ent : List En} {obs : List Ob} (h : PhOk P Z n l bef fr H c i0 hs0 pos0 ν N ent obs) {j k : Nat} {ej ek : En} {mk : Nat} (hj : ent[j]? = some ej) (hk : ent[k]? = some ek) (hjk : j < k)
    (hmk : bef[i0 + k]? = some mk) (hb : mk.testBit (i0 + j) = false) : (∀ x, x ∈ ek.ft → notAt ej.wr x) ∧ (∀ x, x ∈ ej.ft → notAt ek.wr x) := by
  obtain ⟨_, o, _, _, _, _, _, msk, f2, f7⟩ := ph_get h hk
  rw [hmk] at f2
  obtain rfl := Option.some.inj f2
  have hm : ej ∈ ent.take k := by
    refine List.mem_of_getElem? (i := j) ?_
    rw [List.getElem?_take, if_pos hjk, hj]
  obtain ⟨_, _, _, g1, _⟩ := ph_get h hj
  obtain ⟨k1, k2⟩ := okPair_iff.1 f7 ej hm (by rw [g1]; exact hb)
  exact ⟨fun x hx h' he => k1 x h' he hx, fun x hx h' he => k2 x h' he hx⟩

/-- What is known ahead of operation q, whichever others have come up. -/
theorem know {l : List Oper} {U : List Nat} {ν : Nat → Nat × Nat} {ent : List En} {obs : List Ob} {a : Act} {w : World} {q : Nat} {msk : Nat} (hM : Masks l (befOf l))
    (hPh : PhOk P Z n l (befOf l) fr H c i0 hs0 pos0 ν N ent obs) (hI : PInv n l fr H i0 N w0 D U ent a w) (_hq : q < N) (hqU : q ∈ U)
    (hmsk : (befOf l)[i0 + q]? = some msk) (hanc : ∀ q', msk.testBit (i0 + q') = true → q' ∉ U)
    (hclo : ∀ q1 m1 q', q1 < N → q1 ∉ U → (befOf l)[i0 + q1]? = some m1 → m1.testBit (i0 + q') = true → q' ∉ U) :
    Agrees n (frOf (befOf l) (i0 + q) msk (ent.take q) fr l 0) a ∧ ∀ e, ent[q]? = some e → ∀ x, x ∈ e.ft → fnOf (curL msk.testBit (ent.take q) H) x = fnOf (curL (exB i0 U) ent H) x := by
  have fi : ∀ (k : Nat) (e : En), ent[k]? = some e → e.i = i0 + k := fun k e he => by obtain ⟨_, o, _, h, _⟩ := ph_get hPh he; exact h
  constructor
  · refine ⟨hI.defers, hI.size, fun t => ?_⟩
    rcases frOf_look (befOf l) (i0 + q) msk (ent.take q) fr t l 0 with h | ⟨q1, o, e, h1, h2, h3, h4, h5⟩ | ⟨h1, h2⟩
    · rw [h]; trivial
    · rw [h5]
      rw [Nat.zero_add] at h3 h4
      rw [findE_take fi] at h4
      split at h4
      · rename_i hr
        obtain ⟨k, rfl⟩ : ∃ k, q1 = i0 + k := ⟨q1 - i0, by omega⟩
        rw [show i0 + k - i0 = k by omega] at h4
        obtain ⟨hk, o', g1, _, g3, _⟩ := ph_get hPh h4
        rw [h1] at g1
        obtain rfl := Option.some.inj g1
        exact hI.done k e t hk (hanc k h3) h4 (g3.trans h2)
      · simp at h4
    · rw [h1]
      refine hI.base t fun q1 o hq1 hU ho hd => ?_
      have := h2 (i0 + q1) o ho hd
      rw [Nat.zero_add] at this
      rcases this with ⟨hb, hf⟩ | ⟨hb, hf⟩
      · have hlt := hM.lt _ _ _ hmsk hb
        rw [findE_take fi, if_pos ⟨by omega, by omega⟩, show i0 + q1 - i0 = q1 by omega] at hf
        have : q1 < ent.length := by rw [hPh.len]; exact hq1
        simp [List.getElem?_eq_getElem this] at hf
      · rcases hf with he | ⟨m, hm, hbm⟩
        · have : q = q1 := by omega
          exact hU (this ▸ hqU)
        · exact hclo q1 m q hq1 hU hm hbm hqU
  · intro e he x hx
    have hsplit : ent = ent.take q ++ e :: ent.drop (q + 1) := by rw [← drop_cons he, List.take_append_drop]
    have hqf : exB i0 U e.i = false := by
      rw [fi q e he]
      cases h : exB i0 U (i0 + q) with
      | false => rfl
      | true => exact absurd hqU (exB_iff.1 h)
    rw [hsplit, curL_append, ← hsplit]
    simp only [curL, hqf, cond_false]
    rw [curL_keep (ent.drop (q + 1))]
    · refine curL_at _ _ _ _ rfl rfl fun k e1 e2 h1 h2 => ?_
      rw [h1] at h2
      obtain rfl := Option.some.inj h2
      rw [List.getElem?_take] at h1
      split at h1
      · rename_i hkq
        have hi := fi k e1 h1
        rw [hi]
        cases hb : msk.testBit (i0 + k) with
        | true => exact .inl ⟨rfl, exB_iff.2 (hanc k hb), rfl⟩
        | false => exact .inr ⟨fun h => by simp at h, fun _ => (ph_pair hPh h1 he hkq hmsk hb).1 x hx⟩
      · simp at h1
    · intro e1 h1 hp
      obtain ⟨k, hk⟩ := List.mem_iff_getElem?.1 h1
      rw [List.getElem?_drop] at hk
      rw [fi _ _ hk, exB_iff] at hp
      obtain ⟨hkN, _, _, _, _, _, _, mk, hmk, _⟩ := ph_get hPh hk
      refine (ph_pair hPh he hk (by omega) hmk ?_).2 x hx
      cases hb : mk.testBit (i0 + q) with
      | false => rfl
      | true => exact absurd hqU (hclo _ mk q hkN hp hmk hb)

theorem phase_sound (hP : Fine P) (hZ : ∀ w, Far w0 D w → Z w) (hM : Masks ops.toList (befOf ops.toList)) (hnd : nodupN (dstsOf ops.toList) = true) (hN : i0 + N ≤ ops.size) (hAl : alone (befOf ops.toList) (i0 + N) = true)
    {C : (Nat → Nat × Nat) → List En → Prop}
    (hfin : ∀ (ν1 : Nat → Nat × Nat) (ent : List En) (obs : List Ob) (a : Act) (w : World), PhOk P Z n ops.toList (befOf ops.toList) fr H c i0 hs0 pos0 ν1 N ent obs → PInv n ops.toList fr H i0 N w0 D [] ent a w →
      (∀ ν, (∀ i, i < c + N → ν i = ν1 i) → ∃ ent obs, PhOk P Z n ops.toList (befOf ops.toList) fr H c i0 hs0 pos0 ν N ent obs ∧ (∀ o ∈ obs, o.ok P) ∧ C ν ent) →
      wpAny P .any ops Q (ops.size - (i0 + N)) (upTo ops.size (i0 + N)) a w) :
    ∀ (d : Nat) (U : List Nat) (ν0 : Nat → Nat × Nat) (ent0 : List En) (obs0 : List Ob) (listed : Array Bool) (a : Act) (w : World), U.length = d → U.Nodup → (∀ q ∈ U, q < N) →
      listed.size = ops.size → (∀ j, j < ops.size → (listed.getD j true = true ↔ (j < i0 ∨ ∃ q, j = i0 + q ∧ q < N ∧ q ∉ U))) →
      (∀ q m q', q < N → q ∉ U → (befOf ops.toList)[i0 + q]? = some m → m.testBit (i0 + q') = true → q' ∉ U) →
      (∀ ν, (∀ i, i < c → ν i = ν0 i) → (∀ q, q < N → q ∉ U → ν (c + q) = ν0 (c + q)) → ∃ ent obs, PhOk P Z n ops.toList (befOf ops.toList) fr H c i0 hs0 pos0 ν N ent obs ∧ (∀ o ∈ obs, o.ok P) ∧ C ν ent) →
      PhOk P Z n ops.toList (befOf ops.toList) fr H c i0 hs0 pos0 ν0 N ent0 obs0 → PInv n ops.toList fr H i0 N w0 D U ent0 a w →
      wpAny P .any ops Q (ops.size - (i0 + N) + d) listed a w := by
  intro d
  induction d with
  | zero =>
    intro U ν0 ent0 obs0 listed a w hd hUn hUN hls hl hclo hν hPh hI
    have : U = [] := List.eq_nil_of_length_eq_zero hd
    subst this
    have : listed = upTo ops.size (i0 + N) := by
      apply listed_ext (by rw [hls, upTo_size])
      intro j hj
      rw [hls] at hj
      rw [upTo_get, if_pos hj]
      have := hl j hj
      by_cases h : j < i0 + N
      · rw [this.2 (by
          by_cases h' : j < i0
          · exact .inl h'
          · exact .inr ⟨j - i0, by omega, by omega, by simp⟩)]
        simp [h]
      · cases hg : listed.getD j true with
        | false => simp [h]
        | true =>
          rcases this.1 hg with h' | ⟨q, rfl, hq, _⟩ <;> omega
    rw [this]
    exact hfin ν0 ent0 obs0 a w hPh hI (fun ν hν' => hν ν (fun i hi => hν' i (by omega)) (fun q hq _ => hν' (c + q) (by omega)))
  | succ d ih =>
    intro U ν0 ent0 obs0 listed a w hd hUn hUN hls hl hclo hν hPh hI
    have hlF : ∀ j, j < ops.size → (listed.getD j false = true ↔ (j < i0 ∨ ∃ q, j = i0 + q ∧ q < N ∧ q ∉ U)) := by
      intro j hj
      rw [← hl j hj]
      simp [Array.getD_eq_getD_getElem?, hls, hj]
    have hUne : U ≠ [] := by intro h; rw [h] at hd; simp at hd
    -- what stands ahead of one that may come up has come up
    have hanc : ∀ (j : Nat) (o : Oper) (m : Nat) (q' : Nat), ops[j]? = some o → (befOf ops.toList)[j]? = some m → (∀ e ∈ o.after.toList, Region.binds .any e = true → listed.getD e.on false = true) →
        m.testBit (i0 + q') = true → q' ∉ U := by
      intro j o m q' ho hm hdir hb
      have hj : j < ops.size := by
        rcases Nat.lt_or_ge j ops.size with h' | h'
        · exact h'
        · simp [Array.getElem?_eq_none h'] at ho
      have ho' : ops.toList[j]? = some o := by rw [Array.getElem?_toList]; exact ho
      obtain ⟨e, he, hbind, hor⟩ := (hM.bit j o m _ ho' hm).1 hb
      have hdown := hM.down j o ho' e he hbind
      have hls' := (hlF e.on (by omega)).1 (hdir e he hbind)
      rcases hor with heq | ⟨m', hm', hb'⟩
      · rcases hls' with h | ⟨q1, h1, h2, h3⟩
        · omega
        · have : q1 = q' := by omega
          exact this ▸ h3
      · rcases hls' with h | ⟨q1, h1, h2, h3⟩
        · have := hM.lt _ _ _ hm' hb'; omega
        · rw [h1] at hm'
          exact hclo q1 m' q' h2 h3 hm' hb'
    rw [show ops.size - (i0 + N) + (d + 1) = (ops.size - (i0 + N) + d) + 1 by omega]
    refine ⟨fun hnil => ?_, fun j hj => ?_⟩
    · exfalso
      obtain ⟨q, hqU, hleast⟩ := exists_least U hUne
      have hqN := hUN q hqU
      have hlt : i0 + q < ops.size := by omega
      have : i0 + q ∈ Region.ready .any ops listed := by
        rw [mem_ready]
        refine ⟨ops[i0 + q], by simp [hlt], ?_, fun e he hb => ?_⟩
        · cases hg : listed.getD (i0 + q) true with
          | false => rfl
          | true =>
            rcases (hl _ hlt).1 hg with h | ⟨q1, h1, _, h3⟩
            · omega
            · have : q1 = q := by omega
              exact absurd hqU (this ▸ h3)
        · have hdown := hM.down (i0 + q) ops[i0 + q] (by simp [hlt]) e he hb
          rw [hlF e.on (by omega)]
          by_cases h : e.on < i0
          · exact .inl h
          · refine .inr ⟨e.on - i0, by omega, by omega, fun hm => ?_⟩
            have := hleast _ hm
            omega
      rw [hnil] at this
      simp at this
    · obtain ⟨o, ho, hnl, hdir⟩ := mem_ready.1 hj
      have hjs : j < ops.size := by
        rcases Nat.lt_or_ge j ops.size with h' | h'
        · exact h'
        · simp [Array.getElem?_eq_none h'] at ho
      have ho' : ops.toList[j]? = some o := by rw [Array.getElem?_toList]; exact ho
      have hnot : ¬ (j < i0 ∨ ∃ q, j = i0 + q ∧ q < N ∧ q ∉ U) := by
        rw [← hl j hjs, hnl]
        simp
      have hjb : j < (befOf ops.toList).length := by rw [hM.length]; simpa using hjs
      have hjm := List.getElem?_eq_getElem hjb
      -- it is one of the phase
      have hjN : j < i0 + N := by
        rcases Nat.lt_or_ge j (i0 + N) with h | h
        · exact h
        · exfalso
          have hMb : i0 + N < (befOf ops.toList).length := by rw [hM.length]; simp; omega
          obtain ⟨s1, s2⟩ := alone_spec hAl (List.getElem?_eq_getElem hMb)
          rcases Nat.lt_or_eq_of_le h with hlt | heq
          · have hbit := s2 j _ hlt hjm
            obtain ⟨e, he, hbind, hor⟩ := (hM.bit j o _ _ ho' hjm).1 hbit
            have hdown := hM.down j o ho' e he hbind
            have hle := (hlF e.on (by omega)).1 (hdir e he hbind)
            have hge : i0 + N ≤ e.on := by
              rcases hor with h' | ⟨m', hm', hb'⟩
              · omega
              · have := hM.lt _ _ _ hm' hb'; omega
            rcases hle with h' | ⟨q1, h1, h2, _⟩ <;> omega
          · obtain ⟨q, hqU, _⟩ := exists_least U hUne
            have hqN := hUN q hqU
            subst heq
            exact hanc _ o _ q ho hjm hdir (s1 (i0 + q) (by omega)) hqU
      obtain ⟨q, rfl⟩ : ∃ q, j = i0 + q := ⟨j - i0, by have : ¬ j < i0 := fun h => hnot (.inl h); omega⟩
      have hqN : q < N := by omega
      have hqU : q ∈ U := by
        by_cases h : q ∈ U
        · exact h
        · exact absurd (.inr ⟨q, rfl, hqN, h⟩) hnot
      have hancq : ∀ q', (befOf ops.toList)[i0 + q].testBit (i0 + q') = true → q' ∉ U := fun q' hb => hanc _ o _ q' ho hjm hdir hb
      obtain ⟨hA, hO⟩ := know hM hPh hI hqN hqU hjm hancq hclo
      -- the same, under each name of a new block
      let νb : Nat × Nat → Nat → Nat × Nat := fun b i => if i = c + q then b else ν0 i
      have hνb : ∀ b, (∀ i, i < c → νb b i = ν0 i) ∧ (∀ q', q' < N → q' ∉ U → νb b (c + q') = ν0 (c + q')) ∧ νb b (c + q) = b := by
        intro b
        refine ⟨fun i hi => if_neg (by omega), fun q' _ hq' => if_neg (fun h => ?_), if_pos rfl⟩
        have : q' = q := by omega
        exact hq' (this ▸ hqU)
      have hev : ∀ b, ∃ entb obsb e obe, PhOk P Z n ops.toList (befOf ops.toList) fr H c i0 hs0 pos0 (νb b) N entb obsb ∧ (∀ x ∈ obe, x.ok P) ∧
          evE P Z b n ops.toList (befOf ops.toList) fr H c o (befOf ops.toList)[i0 + q] (i0 + q) (stat (ops.toList.drop i0) hs0 pos0 q).1 (stat (ops.toList.drop i0) hs0 pos0 q).2 (ent0.take q) = some (e, obe) ∧
          entb[q]? = some e ∧ (∀ q', q' < N → q' ∉ U → entb[q']? = ent0[q']?) := by
        intro b
        obtain ⟨entb, obsb, p1, p2, _⟩ := hν (νb b) (hνb b).1 (hνb b).2.1
        have hind := indep hM p1 hPh (fun q' => q' < N ∧ q' ∉ U) (fun q1 m1 q' h1 h2 h3 => by
          refine ⟨?_, hclo q1 m1 q' h1.1 h1.2 h2 h3⟩
          have := hM.lt _ _ _ h2 h3
          omega) (fun q' h1 h2 => (hνb b).2.1 q' h1 h2.2)
        obtain ⟨o1, m1, e, obe, f1, f2, f3, f4, f5, f6, _⟩ := p1.ev q hqN
        rw [ho'] at f1
        obtain rfl := Option.some.inj f1
        rw [hjm] at f2
        obtain rfl := Option.some.inj f2
        rw [(hνb b).2.2] at f4
        refine ⟨entb, obsb, e, obe, p1, fun x hx => p2 x (f6 x hx), ?_, f5, fun q' h1 h2 => hind q' h1 ⟨h1, h2⟩⟩
        have fi : ∀ (k : Nat) (e : En), ent0[k]? = some e → e.i = i0 + k := fun k e he => by obtain ⟨_, o, _, h, _⟩ := ph_get hPh he; exact h
        have fi' : ∀ (k : Nat) (e : En), entb[k]? = some e → e.i = i0 + k := fun k e he => by obtain ⟨_, o, _, h, _⟩ := ph_get p1 he; exact h
        rw [← f4]
        refine evE_congr (fun j' hb => ?_) ?_
        · rw [findE_take fi, findE_take fi']
          split
          · rename_i hr
            obtain ⟨k, rfl⟩ : ∃ k, j' = i0 + k := ⟨j' - i0, by omega⟩
            rw [show i0 + k - i0 = k by omega]
            exact (hind k (by omega) ⟨by omega, hancq k hb⟩).symm
          · rfl
        · refine curL_congr _ _ _ (by simp [hPh.len, p1.len]) (fun k x y hx hy => ?_)
          rw [List.getElem?_take] at hx hy
          split at hx
          · rename_i hkq
            rw [if_pos hkq] at hy
            refine ⟨by rw [fi k x hx, fi' k y hy], fun hb => ?_⟩
            rw [fi k x hx] at hb
            have := hind k (by omega) ⟨by omega, hancq k hb⟩
            rw [hx, hy] at this
            exact (Option.some.inj this).symm
          · simp at hx
      -- it has come up
      have next : ∀ (b : Nat × Nat) (entb : List En) (obsb : List Ob) (e : En) (obe : List Ob) (v : Value) (w' : World), PhOk P Z n ops.toList (befOf ops.toList) fr H c i0 hs0 pos0 (νb b) N entb obsb →
          evE P Z b n ops.toList (befOf ops.toList) fr H c o (befOf ops.toList)[i0 + q] (i0 + q) (stat (ops.toList.drop i0) hs0 pos0 q).1 (stat (ops.toList.drop i0) hs0 pos0 q).2 (ent0.take q) = some (e, obe) →
          entb[q]? = some e → (∀ q', q' < N → q' ∉ U → entb[q']? = ent0[q']?) →
          e.se.fits v → (∀ c1 : Nat → HE, (∀ x, notAt e.wr x → c1 x = fnOf (curL (exB i0 U) ent0 H) x) → (∀ x h, e.wr = some (x, h) → c1 x = h) → WIf w0 D c1 w') →
          wpAny P .any ops Q (ops.size - (i0 + N) + d) (listed.setIfInBounds (i0 + q) true) (a.put o.dst v) w' := by
        intro b entb obsb e obe v w' p1 hevE hq1 hsame hfit hmem
        obtain ⟨g1, g2, g5, g6⟩ := evE_fields hevE
        have hmemU : ∀ x, x ∉ U.erase q ↔ x ∉ U ∨ x = q := by
          intro x
          rw [hUn.mem_erase_iff]
          constructor
          · intro h
            by_cases hx : x = q
            · exact .inr hx
            · exact .inl fun hm => h ⟨hx, hm⟩
          · rintro (h | h) ⟨h1, h2⟩
            · exact h h2
            · exact h1 h
        refine ih (U.erase q) (νb b) entb obsb _ _ w' (by rw [List.length_erase_of_mem hqU]; omega) (hUn.erase q) (fun x hx => hUN x (List.mem_of_mem_erase hx)) (by simp [hls]) ?_ ?_ ?_ p1 ?_
        · intro j' hj'
          rw [Array.getD_eq_getD_getElem?, Array.getElem?_setIfInBounds]
          by_cases he : i0 + q = j'
          · subst he
            simp only [if_true]
            rw [if_pos (by rw [hls]; exact hj')]
            simp only [Option.getD_some, true_iff]
            exact .inr ⟨q, rfl, hqN, (hmemU q).2 (.inr rfl)⟩
          · rw [if_neg he, ← Array.getD_eq_getD_getElem?, hl j' hj']
            constructor
            · rintro (h | ⟨q', h1, h2, h3⟩)
              · exact .inl h
              · exact .inr ⟨q', h1, h2, (hmemU q').2 (.inl h3)⟩
            · rintro (h | ⟨q', h1, h2, h3⟩)
              · exact .inl h
              · rcases (hmemU q').1 h3 with h | h
                · exact .inr ⟨q', h1, h2, h⟩
                · subst h; exact absurd h1.symm he
        · intro q1 m1 q' h1 h2 h3 h4
          rw [hmemU]
          rcases (hmemU q1).1 h2 with h | h
          · exact .inl (hclo q1 m1 q' h1 h h3 h4)
          · subst h
            rw [hjm] at h3
            obtain rfl := Option.some.inj h3
            exact .inl (hancq q' h4)
        · intro ν h1 h2
          refine hν ν (fun i hi => (h1 i hi).trans ((hνb b).1 i hi)) (fun q' h3 h4 => (h2 q' h3 ((hmemU q').2 (.inl h4))).trans ((hνb b).2.1 q' h3 h4))
        · refine ⟨by cases hdst : o.dst <;> simp [Act.put, hI.defers], by cases hdst : o.dst <;> simp [Act.put, hI.size], fun t ht => ?_, fun q1 e1 t h1 h2 h3 h4 => ?_, ?_⟩
          · have hne : o.dst ≠ some t := ht q o hqN ((hmemU q).2 (.inr rfl)) ho'
            have hb := hI.base t (fun q1 o1 h1 h2 h3 => ht q1 o1 h1 ((hmemU q1).2 (.inl h2)) h3)
            refine SE.holds_congr ?_ hb
            cases hdst : o.dst with
            | none => rfl
            | some dd =>
              have : dd ≠ t := fun h => hne (by rw [hdst, h])
              simp [Act.put, this]
          · by_cases hqq : q1 = q
            · subst hqq
              rw [hq1] at h3
              obtain rfl := Option.some.inj h3
              rw [g2] at h4
              rw [h4] at g5
              simp only [okDst, Nat.blt_eq] at g5
              refine SE.holds_of_fits ?_ hfit
              simp [Act.put, h4, hI.size, g5]
            · have h2' : q1 ∉ U := by
                rcases (hmemU q1).1 h2 with h | h
                · exact h
                · exact absurd h hqq
              rw [hsame q1 h1 h2'] at h3
              have hh := hI.done q1 e1 t h1 h2' h3 h4
              obtain ⟨_, o1, k1, _, k3, _⟩ := ph_get hPh h3
              refine SE.holds_congr ?_ hh
              cases hdst : o.dst with
              | none => rfl
              | some dd =>
                have : dd ≠ t := fun h => hqq (by
                  have := nodup_dsts hnd k1 ho' (k3.symm.trans h4) (hdst.trans (by rw [h]))
                  omega)
                simp [Act.put, this]
          · -- memory
            have fi : ∀ (k : Nat) (e : En), ent0[k]? = some e → e.i = i0 + k := fun k e he => by obtain ⟨_, o, _, h, _⟩ := ph_get hPh he; exact h
            have fi' : ∀ (k : Nat) (e : En), entb[k]? = some e → e.i = i0 + k := fun k e he => by obtain ⟨_, o, _, h, _⟩ := ph_get p1 he; exact h
            refine hmem _ (fun x hx => ?_) (fun x h hwr => ?_)
            · refine (curL_at _ _ _ _ (by simp [hPh.len, p1.len]) rfl fun k e1 e2 h1 h2 => ?_).symm
              rw [fi k e1 h1, fi' k e2 h2]
              by_cases hkq : k = q
              · subst hkq
                rw [hq1] at h2
                obtain rfl := Option.some.inj h2
                exact .inr ⟨fun hp => absurd hqU (exB_iff.1 hp), fun _ => hx⟩
              · by_cases hkU : k ∈ U
                · refine .inr ⟨fun hp => absurd hkU (exB_iff.1 hp), fun hp => ?_⟩
                  rcases (hmemU k).1 (exB_iff.1 hp) with h | h
                  · exact absurd hkU h
                  · exact absurd h hkq
                · refine .inl ⟨exB_iff.2 hkU, exB_iff.2 ((hmemU k).2 (.inl hkU)), ?_⟩
                  have := hsame k (ph_get hPh h1).1 hkU
                  rw [h1, h2] at this
                  rw [Option.some.inj this]
            · have sb : entb = entb.take q ++ e :: entb.drop (q + 1) := by rw [← drop_cons hq1, List.take_append_drop]
              rw [sb]
              refine curL_last (by rw [g1]; exact exB_iff.2 ((hmemU q).2 (.inr rfl))) hwr fun e1 h1 hp => ?_
              obtain ⟨k, hk⟩ := List.mem_iff_getElem?.1 h1
              rw [List.getElem?_drop] at hk
              rw [fi' _ _ hk, exB_iff] at hp
              obtain ⟨hkN, _, _, _, _, _, _, mk, hmk, _⟩ := ph_get p1 hk
              refine (ph_pair p1 hq1 hk (by omega) hmk ?_).2 x (g6 x h hwr)
              cases hb : mk.testBit (i0 + q) with
              | false => rfl
              | true =>
                rcases (hmemU _).1 hp with h' | h'
                · exact absurd hqU (hclo _ mk q hkN h' hmk hb)
                · omega
      -- one operation
      unfold wpOp
      rw [ho]
      simp only []
      have hgd := guard_ok (ops := ops) (o := o) (hs := (stat (ops.toList.drop i0) hs0 pos0 q).1) hA
      have pass : Region.wanted o (yielded ops a.tmps) = false → (∃ b entb obsb e obe, PhOk P Z n ops.toList (befOf ops.toList) fr H c i0 hs0 pos0 (νb b) N entb obsb ∧
          evE P Z b n ops.toList (befOf ops.toList) fr H c o (befOf ops.toList)[i0 + q] (i0 + q) (stat (ops.toList.drop i0) hs0 pos0 q).1 (stat (ops.toList.drop i0) hs0 pos0 q).2 (ent0.take q) = some (e, obe) ∧
          entb[q]? = some e ∧ (∀ q', q' < N → q' ∉ U → entb[q']? = ent0[q']?) ∧ e.se.fits undef ∧ e.wr = none) →
          (if Region.wanted o (yielded ops a.tmps) = true then o.wp P a w (wpAny P .any ops Q (ops.size - (i0 + N) + d) (listed.setIfInBounds (i0 + q) true)) Q ∨ (o.asks P a w ∧ LetsOut Q)
            else wpAny P .any ops Q (ops.size - (i0 + N) + d) (listed.setIfInBounds (i0 + q) true) (a.put o.dst undef) w) := by
        rintro hw ⟨b, entb, obsb, e, obe, p1, p2, p3, p4, p5, p6⟩
        rw [if_neg (by rw [hw]; simp)]
        exact next b entb obsb e obe undef w p1 p2 p3 p4 p5 (fun c1 h1 _ => hI.world.congr (fun x => h1 x (fun h => by rw [p6]; simp)))
      have take : ∀ G, Gok G → guardOf ops.toList (frOf (befOf ops.toList) (i0 + q) (befOf ops.toList)[i0 + q] (ent0.take q) fr ops.toList 0) o (stat (ops.toList.drop i0) hs0 pos0 q).1 = .yes G →
          Region.wanted o (yielded ops a.tmps) = true →
          (if Region.wanted o (yielded ops a.tmps) = true then o.wp P a w (wpAny P .any ops Q (ops.size - (i0 + N) + d) (listed.setIfInBounds (i0 + q) true)) Q ∨ (o.asks P a w ∧ LetsOut Q)
            else wpAny P .any ops Q (ops.size - (i0 + N) + d) (listed.setIfInBounds (i0 + q) true) (a.put o.dst undef) w) := by
        intro G hG hgy hw
        rw [if_pos hw]
        left
        -- what it looks at
        obtain ⟨e0, he0⟩ : ∃ e0, ent0[q]? = some e0 := ⟨ent0[q]'(by rw [hPh.len]; exact hqN), by simp⟩
        have hft : ∀ x, x ∈ footOf (frOf (befOf ops.toList) (i0 + q) (befOf ops.toList)[i0 + q] (ent0.take q) fr ops.toList 0) G (stat (ops.toList.drop i0) hs0 pos0 q).1 o.op → x ∈ e0.ft := by
          intro x hx
          obtain ⟨o1, m1, e1, ob1, f1, f2, _, f4, f5, _⟩ := hPh.ev q hqN
          rw [ho'] at f1
          obtain rfl := Option.some.inj f1
          rw [hjm] at f2
          obtain rfl := Option.some.inj f2
          rw [he0] at f5
          obtain rfl := Option.some.inj f5
          unfold evE at f4
          rw [hgy] at f4
          simp only [cond_eq_ite] at f4
          split at f4
          · split at f4
            · simp only [Option.some.injEq, Prod.mk.injEq] at f4
              rw [← f4.1]
              simp only [newFt, cond_eq_ite]
              split
              · exact List.mem_cons_of_mem _ hx
              · exact hx
            · simp at f4
          · simp at f4
        have hL : ∀ x, x ∈ footOf (frOf (befOf ops.toList) (i0 + q) (befOf ops.toList)[i0 + q] (ent0.take q) fr ops.toList 0) G (stat (ops.toList.drop i0) hs0 pos0 q).1 o.op →
            fnOf (curL (befOf ops.toList)[i0 + q].testBit (ent0.take q) H) x = fnOf (curL (exB i0 U) ent0 H) x := fun x hx => hO e0 he0 x (hft x hx)
        have hOw : Owns w (maskL (footOf (frOf (befOf ops.toList) (i0 + q) (befOf ops.toList)[i0 + q] (ent0.take q) fr ops.toList 0) G (stat (ops.toList.drop i0) hs0 pos0 q).1 o.op) 0 (curL (befOf ops.toList)[i0 + q].testBit (ent0.take q) H)) := by
          refine hI.world.owns fun x hx => ?_
          rw [fnOf_maskL, Nat.zero_add] at hx ⊢
          split at hx
          · rename_i hm
            rw [if_pos hm]
            exact hL x hm
          · simp [hole, HO.full] at hx
        refine evalOp_ok hP (hZ w hI.world.toL.toFar) hA hG (s := ⟨maskL (footOf (frOf (befOf ops.toList) (i0 + q) (befOf ops.toList)[i0 + q] (ent0.take q) fr ops.toList 0) G (stat (ops.toList.drop i0) hs0 pos0 q).1 o.op) 0 (curL (befOf ops.toList)[i0 + q].testBit (ent0.take q) H), c, (stat (ops.toList.drop i0) hs0 pos0 q).1⟩) (pos := (stat (ops.toList.drop i0) hs0 pos0 q).2) hOw
          (C := fun b r => evalOp P Z b (frOf (befOf ops.toList) (i0 + q) (befOf ops.toList)[i0 + q] (ent0.take q) fr ops.toList 0) G o ⟨maskL (footOf (frOf (befOf ops.toList) (i0 + q) (befOf ops.toList)[i0 + q] (ent0.take q) fr ops.toList 0) G (stat (ops.toList.drop i0) hs0 pos0 q).1 o.op) 0 (curL (befOf ops.toList)[i0 + q].testBit (ent0.take q) H), c, (stat (ops.toList.drop i0) hs0 pos0 q).1⟩ (stat (ops.toList.drop i0) hs0 pos0 q).2 = some r) ?_ ?_
        · intro b
          obtain ⟨entb, obsb, e, obe, p1, p2, p3, p4, p5⟩ := hev b
          unfold evE at p3
          rw [hgy] at p3
          simp only [] at p3
          split at p3
          · rename_i r hr
            simp only [cond_eq_ite] at p3
            split at p3
            · simp only [Option.some.injEq, Prod.mk.injEq] at p3
              exact ⟨r, hr, by rw [p3.2]; exact p2, hr⟩
            · simp at p3
          · simp at p3
        · intro b r w' hr hE
          obtain ⟨entb, obsb, e, obe, p1, p2, p3, p4, p5⟩ := hev b
          have p3' := p3
          unfold evE at p3'
          rw [hgy] at p3'
          simp only [hr, cond_eq_ite] at p3'
          split at p3'
          · rename_i hc
            simp only [Bool.and_eq_true, beq_iff_eq, Bool.not_eq_true'] at hc
            simp only [Option.some.injEq, Prod.mk.injEq] at p3'
            refine next b entb obsb e obe (valR r) w' p1 p3 p4 p5 ?_ ?_
            · rw [← p3'.1]
              unfold valR seOf
              cases r.x with
              | none => trivial
              | some x =>
                cases G with
                | none => rfl
                | some g => exact ⟨fun _ => rfl, fun hg => by have := hG g rfl; rw [hg] at this; simp at this⟩
            · rw [← p3'.1]
              exact eff_mem hI.world hL hr hE
          · simp at p3'
      cases hgo : guardOf ops.toList (frOf (befOf ops.toList) (i0 + q) (befOf ops.toList)[i0 + q] (ent0.take q) fr ops.toList 0) o (stat (ops.toList.drop i0) hs0 pos0 q).1 with
      | bad =>
        obtain ⟨entb, obsb, e, obe, p1, p2, p3, p4, p5⟩ := hev (0, 0)
        unfold evE at p3
        rw [hgo] at p3
        simp at p3
      | again d' t v hs' =>
        obtain ⟨entb, obsb, e, obe, p1, p2, p3, p4, p5⟩ := hev (0, 0)
        unfold evE at p3
        rw [hgo] at p3
        simp at p3
      | no =>
        rw [hgo] at hgd
        refine pass hgd ?_
        obtain ⟨entb, obsb, e, obe, p1, p2, p3, p4, p5⟩ := hev (0, 0)
        have p3' := p3
        unfold evE at p3'
        rw [hgo] at p3'
        simp only [cond_eq_ite] at p3'
        split at p3'
        · simp only [Option.some.injEq, Prod.mk.injEq] at p3'
          exact ⟨(0, 0), entb, obsb, e, obe, p1, p3, p4, p5, by rw [← p3'.1]; trivial, by rw [← p3'.1]⟩
        · simp at p3'
      | yes G =>
        rw [hgo] at hgd
        cases G with
        | none => exact take none (fun g hg => by simp at hg) hgo hgd
        | some g =>
          cases g with
          | true => exact take (some true) (fun g hg => by simp at hg; exact hg ▸ rfl) hgo hgd
          | false =>
            refine pass hgd ?_
            obtain ⟨entb, obsb, e, obe, p1, p2, p3, p4, p5⟩ := hev (0, 0)
            have p3' := p3
            unfold evE at p3'
            rw [hgo] at p3'
            simp only [] at p3'
            split at p3'
            · rename_i r hr
              simp only [cond_eq_ite] at p3'
              split at p3'
              · rename_i hc
                simp only [Bool.and_eq_true, beq_iff_eq, Bool.not_eq_true'] at hc
                simp only [Option.some.injEq, Prod.mk.injEq] at p3'
                refine ⟨(0, 0), entb, obsb, e, obe, p1, p3, p4, p5, ?_, ?_⟩
                · rw [← p3'.1]
                  unfold seOf
                  cases r.x with
                  | none => trivial
                  | some x => exact ⟨fun h => by simp at h, fun _ => rfl⟩
                · rw [← p3'.1]
                  simp only
                  have hn : isNew (stat (ops.toList.drop i0) hs0 pos0 q).1 o.op = false := by simpa [isSomeB] using hc.2.2
                  have hnw : r.nw = none := by
                    cases h : r.nw with
                    | none => rfl
                    | some x => rw [hn, h] at hc; simp [isSomeB] at hc
                  have hst : isStore o.op = false := by
                    cases hs : isStore o.op with
                    | false => rfl
                    | true =>
                      unfold isStore at hs
                      split at hs
                      · rename_i t x y hop
                        unfold evalOp at hr
                        rw [rd_store hop, as_store hop] at hr
                        simp only [sk_store hop] at hr
                        unfold evalOp0 at hr
                        rw [hop] at hr
                        simp [evalStore] at hr
                      · simp at hs
                  simp only [wrOf, hst, cond_false, hnw]
              · simp at p3'
            · simp at p3'
end
end Go.Proofs.Ytbbpmhbeohpmnaa.Rx
