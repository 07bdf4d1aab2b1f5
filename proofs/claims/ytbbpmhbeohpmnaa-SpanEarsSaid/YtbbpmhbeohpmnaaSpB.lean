/- Addresses and bridges compared. -/
import Derived.Test.YtbbpmhbeohpmnaaSpA
import Derived.Laws.Externs
namespace Go.Proofs.Ytbbpmhbeohpmnaa
open Rx Go.RowKit

def lex2 (a b : UInt8) (r : Int) : Int := if a = b then r else if a < b then -1 else 1

def macCmp (x y : Mac) : Int := lex2 x.a y.a (lex2 x.b y.b (lex2 x.c y.c (lex2 x.d y.d (lex2 x.e y.e (lex2 x.f y.f 0)))))

def bytes6 (x : Mac) : ByteArray := (((((ByteArray.empty.push x.a).push x.b).push x.c).push x.d).push x.e).push x.f

theorem get6 (x : Mac) : (bytes6 x)[0]! = x.a ∧ (bytes6 x)[1]! = x.b ∧ (bytes6 x)[2]! = x.c ∧ (bytes6 x)[3]! = x.d ∧ (bytes6 x)[4]! = x.e ∧ (bytes6 x)[5]! = x.f :=
  ⟨rfl, rfl, rfl, rfl, rfl, rfl⟩

theorem cmp_bytes (x y : Mac) : Extern.BytealgCompare.cmp (bytes6 x) (bytes6 y) = macCmp x y := by
  have s1 : (bytes6 x).size = 6 := rfl
  have s2 : (bytes6 y).size = 6 := rfl
  have hr : List.range (min 6 6) = [0, 1, 2, 3, 4, 5] := rfl
  obtain ⟨a0, a1, a2, a3, a4, a5⟩ := get6 x
  obtain ⟨b0, b1, b2, b3, b4, b5⟩ := get6 y
  unfold Extern.BytealgCompare.cmp macCmp lex2
  rw [s1, s2, hr]
  simp only [List.find?_cons, List.find?_nil, a0, a1, a2, a3, a4, a5, b0, b1, b2, b3, b4, b5]
  by_cases h0 : x.a = y.a
  · by_cases h1 : x.b = y.b
    · by_cases h2 : x.c = y.c
      · by_cases h3 : x.d = y.d
        · by_cases h4 : x.e = y.e
          · by_cases h5 : x.f = y.f
            · simp [h0, h1, h2, h3, h4, h5]
            · simp [h0, h1, h2, h3, h4, a5, b5, bne_iff_ne.2 h5, h5]
          · simp [h0, h1, h2, h3, a4, b4, bne_iff_ne.2 h4, h4]
        · simp [h0, h1, h2, a3, b3, bne_iff_ne.2 h3, h3]
      · simp [h0, h1, a2, b2, bne_iff_ne.2 h2, h2]
    · simp [h0, a1, b1, bne_iff_ne.2 h1, h1]
  · simp [a0, b0, bne_iff_ne.2 h0, h0]

theorem run_bytes6 {P : Program} {w : World} {b : Nat} {t : TypeId} (x : Mac) (h : w.heap[b]? = some (.cells x.cells.toArray t (0, 0))) :
    (Extern.Bytes.bytesOf (.slice (some ⟨b, 0, none⟩) 6 6)).run P w = .ok (bytes6 x) w := by
  have c : ∀ k, w.cell? ⟨b, k, none⟩ = x.cells[k]? := fun k => cell_block h k
  have c0 := c 0
  have c1 := c 1
  have c2 := c 2
  have c3 := c 3
  have c4 := c 4
  have c5 := c 5
  simp only [Mac.cells, List.getElem?_cons_zero, List.getElem?_cons_succ] at c0 c1 c2 c3 c4 c5
  simp [Extern.Bytes.bytesOf, Extern.Bytes.loadBytes, add_eq, c0, c1, c2, c3, c4, c5, bytes6]

theorem bytesCmp_any (x y : Mac) (b c : Nat) : ReadCall Try.prog [⟨b, .cells 23 [known x.cells]⟩, ⟨c, .cells 23 [known y.cells]⟩] 54
    [.slice (some ⟨b, 0, none⟩) 6 6, .slice (some ⟨c, 0, none⟩) 6 6] (i64 (macCmp x y)) := by
  intro w hO
  have hb : w.heap[b]? = some (.cells x.cells.toArray 23 (0, 0)) := hO.at 0 rfl rfl
  have hc : w.heap[c]? = some (.cells y.cells.toArray 23 (0, 0)) := hO.at 1 rfl rfl
  refine calls_pk (ys := [sv (.slice (some ⟨b, 0, none⟩) 6 6), sv (.slice (some ⟨c, 0, none⟩) 6 6)]) Try.func54 (body := bodyOf Try.f54) rfl fun a hA => ?_
  refine pk_run (w0 := w) (D := []) (H := []) fit safe 100 [.stop] [] [5, 6]
    (fun _ => ⟨[], [], [], .stop (.ops [0, 1] 2 :: kRest (bodyOf Try.f54) [0, 1]) [(5, .val (sv (.slice (some ⟨b, 0, none⟩) 6 6))), (6, .val (sv (.slice (some ⟨c, 0, none⟩) 6 6)))] []⟩)
    hA (WI.nil w) (fun ν => by kernel_rfl) (fun _ => rfl) (fun _ => trivial) (fun ν a w' hA hW => ?_)
  have hfar := hW.toFar.below
  have hb' := (hfar.block b (lt_of_some hb)).trans hb
  have hc' := (hfar.block c (lt_of_some hc)).trans hc
  refine pk_op (v := i64 (macCmp x y)) (w' := w') _ rfl rfl ?_ ?_
  · rw [exec_rho Try.prog hA (by intro cs b h; exact Op.noConfusion h) (xs := [sv (.func (.func 55) #[] #[]), sv (.slice (some ⟨b, 0, none⟩) 6 6), sv (.slice (some ⟨c, 0, none⟩) 6 6)]) (by kernel_rfl)]
    have he : execOp (rho [(5, .val (sv (.slice (some ⟨b, 0, none⟩) 6 6))), (6, .val (sv (.slice (some ⟨c, 0, none⟩) 6 6)))]) (match nth (opsOf (sub (bodyOf Try.f54) [0, 1])) 2 with | some o => o | none => default) =
      callFunc 55 #[.slice (some ⟨b, 0, none⟩) 6 6, .slice (some ⟨c, 0, none⟩) 6 6] := by kernel_rfl
    refine (congrArg (fun s => Sem.run Try.prog s w') he).trans ?_
    rw [run_callFunc_extern Try.func55 (fine _ _ Try.func55) rfl (by kernel_rfl) (e := Extern.BytealgCompare.compare) (by kernel_rfl)]
    have hcmp : Extern.BytealgCompare.compare #[.slice (some ⟨b, 0, none⟩) 6 6, .slice (some ⟨c, 0, none⟩) 6 6] =
      (do pure (goInt (Extern.BytealgCompare.cmp (← Extern.Bytes.bytesOf (.slice (some ⟨b, 0, none⟩) 6 6)) (← Extern.Bytes.bytesOf (.slice (some ⟨c, 0, none⟩) 6 6))))) := rfl
    rw [hcmp]
    simp only [Sem.run_bind, run_bytes6 x hb', run_bytes6 y hc', Result.andThen_ok, cmp_bytes, Sem.run_pure]
    rfl
  · refine pk_run (w0 := w) (D := []) (H := []) (fr := [(7, .val (sv (i64 (macCmp x y))))]) fit safe 100 [] [] []
      (fun _ => ⟨[], [], [], .ret (i64 (macCmp x y)) []⟩) (n := 8) ?_ hW (fun ν => by kernel_rfl) (fun _ => rfl) (fun _ => trivial) (fun ν w2 hF hfar2 => ⟨rfl, hfar2.below⟩)
    exact (hA.put (dst := some 7) (se := .val (sv (i64 (macCmp x y)))) (by kernel_rfl) rfl).only 7 _ rfl

theorem macCmp_any (x y : Mac) : PureCall Try.prog 52 [x.val, y.val] (i64 (macCmp x y)) :=
  pure_run fit safe Try.func52 rfl [sv x.val, sv y.val] 300 [.read [0, 1] (i64 (macCmp x y))] [] []
    (fun ν => [ReadCall Try.prog [⟨(ν 0).1, .cells 23 [known x.cells]⟩, ⟨(ν 1).1, .cells 23 [known y.cells]⟩] 54
      [.slice (some ⟨(ν 0).1, 0, none⟩) 6 6, .slice (some ⟨(ν 1).1, 0, none⟩) 6 6] (i64 (macCmp x y))])
    (fun ν => by kernel_rfl) rfl (fun ν => bytesCmp_any x y _ _)

def idCmp (x y : BId) : Int := orI [cmpI x.prio y.prio, macCmp x.mac y.mac]

theorem or_kn (xs : List Int) (b : Nat) (l : List TV) (hl : valsOf l = xs.map i64) (hn : xs.length < 2 ^ 40) :
    ReadCall Try.prog [⟨b, .cells 3 [.kn l]⟩] 48 [.slice (some ⟨b, 0, none⟩) xs.length xs.length] (i64 (orI xs)) :=
  (or_any xs b hn).same (by simp only [List.map_cons, List.map_nil, HE.key, HO.obj, flat, Chunk.vals, hl, HO.full])

theorem idCmp_any (x y : BId) : PureCall Try.prog 49 [x.val, y.val] (i64 (idCmp x y)) :=
  pure_run fit safe Try.func49 rfl [sv x.val, sv y.val] 300 [.pure (i64 (cmpI x.prio y.prio)), .pure (i64 (macCmp x.mac y.mac)), .read [2] (i64 (idCmp x y))] [] []
    (fun ν => [PureCall Try.prog 50 [i64 x.prio, i64 y.prio] (i64 (cmpI x.prio y.prio)), PureCall Try.prog 52 [x.mac.val, y.mac.val] (i64 (macCmp x.mac y.mac)),
      ReadCall Try.prog [⟨(ν 13).1, .cells 3 [known [i64 (cmpI x.prio y.prio), i64 (macCmp x.mac y.mac)]]⟩] 48 [.slice (some ⟨(ν 13).1, 0, none⟩) 2 2] (i64 (idCmp x y))])
    (fun ν => by kernel_rfl) rfl (fun ν => ⟨cmp_any _ _, macCmp_any _ _, or_kn [_, _] _ _ rfl (by simp)⟩)

def vecCmp (x y : Vec) : Int := orI [idCmp x.root y.root, cmpI x.cost y.cost, idCmp x.bridge y.bridge, cmpI x.port y.port, cmpI x.own y.own]

theorem vecCmp_any (x y : Vec) : PureCall Try.prog 39 [x.val, y.val] (i64 (vecCmp x y)) :=
  pure_run fit safe Try.func39 rfl [sv x.val, sv y.val] 300
    [.pure (i64 (idCmp x.root y.root)), .pure (i64 (cmpI x.cost y.cost)), .pure (i64 (idCmp x.bridge y.bridge)), .pure (i64 (cmpI x.port y.port)), .pure (i64 (cmpI x.own y.own)), .read [2] (i64 (vecCmp x y))] [] []
    (fun ν => [PureCall Try.prog 49 [x.root.val, y.root.val] (i64 (idCmp x.root y.root)), PureCall Try.prog 50 [i64 x.cost, i64 y.cost] (i64 (cmpI x.cost y.cost)),
      PureCall Try.prog 49 [x.bridge.val, y.bridge.val] (i64 (idCmp x.bridge y.bridge)), PureCall Try.prog 50 [i64 x.port, i64 y.port] (i64 (cmpI x.port y.port)),
      PureCall Try.prog 50 [i64 x.own, i64 y.own] (i64 (cmpI x.own y.own)),
      ReadCall Try.prog [⟨(ν 28).1, .cells 3 [known [i64 (idCmp x.root y.root), i64 (cmpI x.cost y.cost), i64 (idCmp x.bridge y.bridge), i64 (cmpI x.port y.port), i64 (cmpI x.own y.own)]]⟩] 48 [.slice (some ⟨(ν 28).1, 0, none⟩) 5 5] (i64 (vecCmp x y))])
    (fun ν => by kernel_rfl) rfl (fun ν => ⟨idCmp_any _ _, cmp_any _ _, idCmp_any _ _, cmp_any _ _, cmp_any _ _, or_kn [_, _, _, _, _] _ _ rfl (by simp)⟩)

theorem offer (me : BId) (v : Vec) (n : Int) : PureCall Try.prog 46 [me.val, v.val, i64 n] (Vec.val ⟨v.root, v.cost, me, n, 0⟩) :=
  pure_run fit safe Try.func46 rfl [sv me.val, sv v.val, sv (i64 n)] 300 [] [] [] (fun _ => []) (fun ν => by kernel_rfl) rfl (fun _ => trivial)

def costOk (n : Int) : Bool := decide (0 ≤ n) && decide (n ≤ 4294967295)

theorem costs_any (n : Int) : PureCall Try.prog 51 [i64 n] (.bool (costOk n)) :=
  pure_run fit safe Try.func51 rfl [sv (i64 n)] 300 [] [] [] (fun _ => []) (fun ν => by kernel_rfl) rfl (fun _ => trivial)

def vecAdd (v : Vec) (c : Int) : Vec := if costOk v.cost = true ∧ costOk c = true then { v with cost := if 4294967295 < v.cost + c then 4294967295 else v.cost + c } else v

theorem wrap_small {n : Int} (h0 : -9223372036854775808 ≤ n) (h1 : n ≤ 9223372036854775807) : IntKind.i64.wrap n = n := by
  simp only [IntKind.wrap, IntKind.bits, IntKind.signed]
  simp
  omega

theorem vecAdd_any (v : Vec) (c : Int) : PureCall Try.prog 45 [v.val, i64 c] (vecAdd v c).val := by
  by_cases h : costOk v.cost = true ∧ costOk c = true
  · have hw : IntKind.i64.wrap (v.cost + c) = v.cost + c := by
      obtain ⟨h1, h2⟩ := h
      simp only [costOk, Bool.and_eq_true, decide_eq_true_eq] at h1 h2
      exact wrap_small (by omega) (by omega)
    rw [vecAdd, if_pos h, ← hw]
    exact pure_run fit safe Try.func45 rfl [sv v.val, sv (i64 c)] 300 [.pure (.bool (costOk v.cost)), .pure (.bool (costOk c)), .d true] [cond (costOk v.cost) (costOk c) false] [true]
      (fun _ => [PureCall Try.prog 51 [i64 v.cost] (.bool (costOk v.cost)), costOk v.cost = true → PureCall Try.prog 51 [i64 c] (.bool (costOk c))])
      (fun ν => by kernel_rfl) (by simp [h.1, h.2]) (fun _ => ⟨costs_any _, fun _ => costs_any _⟩)
  · rw [vecAdd, if_neg h]
    exact pure_run fit safe Try.func45 rfl [sv v.val, sv (i64 c)] 300 [.pure (.bool (costOk v.cost)), .pure (.bool (costOk c)), .d false] [cond (costOk v.cost) (costOk c) false] [false]
      (fun _ => [PureCall Try.prog 51 [i64 v.cost] (.bool (costOk v.cost)), costOk v.cost = true → PureCall Try.prog 51 [i64 c] (.bool (costOk c))])
      (fun ν => by kernel_rfl) (by cases hc : costOk v.cost <;> simp_all) (fun _ => ⟨costs_any _, fun _ => costs_any _⟩)
end Go.Proofs.Ytbbpmhbeohpmnaa
