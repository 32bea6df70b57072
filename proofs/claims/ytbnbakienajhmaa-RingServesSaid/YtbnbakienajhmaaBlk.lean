/- Great blocks: loads and stores of many cells at once, where a block's cells are known as one array; found by instances. -/
import Derived.Test.YtbnbakienajhmaaEnv
import Derived.Deep.MidRow
namespace Go.Proofs.Ytbnbakienajhmaa
open Go.RowKit
set_option linter.unusedVariables false

/-- A block of cells that may be written, known whole. -/
class IsBlk (w : World) (b : Nat) (C : outParam (Array Value)) (t : outParam TypeId) : Prop where
  out : w.heap[b]? = some (.cells C t)
class Apart (a b : Nat) : Prop where
  out : a ≠ b
def spl (C : Array Value) : Nat → List Value → Array Value
  | _, [] => C
  | o, v :: r => spl (C.setIfInBounds o v) (o + 1) r
theorem spl_size : ∀ (vs : List Value) (C : Array Value) (o : Nat), (spl C o vs).size = C.size
  | [], _, _ => rfl
  | v :: r, C, o => by rw [spl, spl_size r]; simp
theorem spl_get : ∀ (vs : List Value) (C : Array Value) (o i : Nat), (spl C o vs)[i]? = if o ≤ i ∧ i < o + vs.length ∧ i < C.size then vs[i - o]? else C[i]?
  | [], C, o, i => by rw [spl, if_neg (by simp; omega)]
  | v :: r, C, o, i => by
    rw [spl, spl_get r, Array.getElem?_setIfInBounds]
    simp only [Array.size_setIfInBounds, List.length_cons]
    by_cases h1 : o + 1 ≤ i ∧ i < o + 1 + r.length ∧ i < C.size
    · rw [if_pos h1, if_pos ⟨by omega, by omega, h1.2.2⟩]
      rw [show i - o = (i - (o + 1)) + 1 by omega]; simp
    · rw [if_neg h1]
      by_cases h2 : o = i
      · subst h2
        by_cases h3 : o < C.size
        · rw [if_pos rfl, if_pos h3, if_pos ⟨by omega, by omega, h3⟩]; simp
        · rw [if_pos rfl, if_neg h3, if_neg (by omega)]; simp; omega
      · rw [if_neg h2, if_neg (by omega)]
theorem heap_set_same {w : World} {b : Nat} {C : Array Value} {t : TypeId} (h : w.heap[b]? = some (.cells C t)) (o : Nat) (v : Value) : (w.setCell ⟨b, o, none⟩ v).heap[b]? = some (.cells (C.setIfInBounds o v) t) := by
  simp only [World.setCell, Array.getElem?_modify, if_true]
  rw [h]; rfl
theorem heap_sets_same : ∀ (vs : List Value) {w : World} {b : Nat} {C : Array Value} {t : TypeId} (h : w.heap[b]? = some (.cells C t)) (o : Nat), (w.setCells b o vs).heap[b]? = some (.cells (spl C o vs) t)
  | [], _, _, _, _, h, _ => h
  | v :: r, w, b, C, t, h, o => by rw [World.setCells, spl]; exact heap_sets_same r (heap_set_same h o v) (o + 1)
theorem heap_sets_other : ∀ (vs : List Value) {w : World} {b k : Nat} (o : Nat), k ≠ b → (w.setCells b o vs).heap[k]? = w.heap[k]?
  | [], _, _, _, _, _ => rfl
  | v :: r, w, b, k, o, h => by rw [World.setCells, heap_sets_other r (o + 1) h]; exact Below.heap_setCell _ _ _ _ h
theorem size_setCells : ∀ (vs : List Value) (w : World) (b o : Nat), (w.setCells b o vs).heap.size = w.heap.size
  | [], _, _, _ => rfl
  | v :: r, w, b, o => by rw [World.setCells, size_setCells r]; simp [World.setCell]
theorem below_setCells {B : Nat} {a : World} : ∀ (vs : List Value) {w : World} {b : Nat} (o : Nat), Below B a w → B ≤ b → Below B a (w.setCells b o vs)
  | [], _, _, _, h, _ => h
  | v :: r, w, b, o, h, hb => by rw [World.setCells]; exact below_setCells r (o + 1) (h.setCell (p := ⟨b, o, none⟩) hb v) hb
instance (w : World) (b : Nat) (C : Array Value) (t : TypeId) [h : SizeIs b w] : IsBlk (w.alloc (.cells C t)) b C t := ⟨by rw [h.out]; exact heap_alloc_here _ _⟩
instance (w : World) (b : Nat) (o : Obj) (C : Array Value) (t : TypeId) [h : IsBlk w b C t] : IsBlk (w.alloc o) b C t := ⟨by rw [Below.heap_alloc _ _ _ (Array.getElem?_eq_some_iff.1 h.out).1]; exact h.out⟩
instance (w : World) (b i : Nat) (v : Value) (C : Array Value) (t : TypeId) [h : IsBlk w b C t] : IsBlk (w.setCell ⟨b, i, none⟩ v) b (C.setIfInBounds i v) t := ⟨heap_set_same h.out i v⟩
instance (w : World) (b k i : Nat) (v : Value) (C : Array Value) (t : TypeId) [h : IsBlk w b C t] [n : Apart b k] : IsBlk (w.setCell ⟨k, i, none⟩ v) b C t := ⟨by rw [Below.heap_setCell _ _ _ _ n.out]; exact h.out⟩
instance (w : World) (b i : Nat) (vs : List Value) (C : Array Value) (t : TypeId) [h : IsBlk w b C t] : IsBlk (w.setCells b i vs) b (spl C i vs) t := ⟨heap_sets_same vs h.out i⟩
instance (w : World) (b k i : Nat) (vs : List Value) (C : Array Value) (t : TypeId) [h : IsBlk w b C t] [n : Apart b k] : IsBlk (w.setCells k i vs) b C t := ⟨by rw [heap_sets_other vs i n.out]; exact h.out⟩
instance (w : World) (b : Nat) (C : Array Value) (t : TypeId) [h : IsBlk w b C t] : IsBlk w.drew b C t := ⟨h.out⟩
instance (W : World) (b : Nat) (u : Up W) (C : Array Value) (t : TypeId) [h : IsBlk W b C t] : IsBlk u.w b C t := ⟨by rw [u.bel.block _ (Array.getElem?_eq_some_iff.1 h.out).1]; exact h.out⟩
instance (b : Nat) (w : World) (k o : Nat) (vs : List Value) [h : LeSize b w] : LeSize b (w.setCells k o vs) := ⟨by have := h.out; rw [size_setCells]; exact this⟩
instance (b : Nat) (w : World) (k o : Nat) (vs : List Value) [h : SizeIs b w] : SizeIs b (w.setCells k o vs) := ⟨by have := h.out; rw [size_setCells]; exact this⟩
theorem IsBlk.le {w : World} {b : Nat} {C : Array Value} {t : TypeId} (h : IsBlk w b C t) : LeSize (b + 1) w := ⟨(Array.getElem?_eq_some_iff.1 h.out).1⟩
theorem IsBlk.cell {w : World} {b : Nat} {C : Array Value} {t : TypeId} [h : IsBlk w b C t] (i : Nat) : w.cell? ⟨b, i, none⟩ = C[i]? := by
  cases hc : C[i]? with
  | none => simp [World.cell?, h.out, hc]
  | some v => exact laid_cell h.out i hc
theorem IsBlk.frozen {w : World} {b : Nat} {C : Array Value} {t : TypeId} [h : IsBlk w b C t] (i : Nat) : w.frozen? ⟨b, i, none⟩ = false := laid_open h.out i
theorem blk_range {w : World} {b : Nat} {C : Array Value} {t : TypeId} (h : w.heap[b]? = some (.cells C t)) (o : Nat) (cs : List Value) (hc : ∀ j, j < cs.length → C[o + j]? = cs[j]?) : w.rangeAt b o cs := fun j v hv => by
  have hj := (List.getElem?_eq_some_iff.1 hv).1
  exact laid_cell h _ (by rw [hc j hj]; exact hv)
theorem blk_there {w : World} {b : Nat} {C : Array Value} {t : TypeId} (h : w.heap[b]? = some (.cells C t)) (o n : Nat) (hn : o + n ≤ C.size) : w.there b o n := fun j hj =>
  ⟨by rw [laid_cell h (o + j) (Array.getElem?_eq_getElem (by omega))]; rfl, laid_open h _⟩
section
variable {P : Program} {ops : Array Oper} {op : Oper} {rest : List Oper} {a : Act} {w : World} {Q : Exit → Act → World → Prop}
/-- A whole variable, out of a block that is known whole. -/
theorem wpList_load_whole (ty : TypeId) (d : TypeDesc) {x : Operand} {b : Nat} {C : Array Value} {t : TypeId} (hgd : op.guard = none) (ho : op.op = .load ty x) (hx : a.eval x = .pointer (some ⟨b, 0, none⟩)) [hb : IsBlk w b C t]
    (hu : P.underlying ty = some d) (hd : d.isRow = true) (hi : (P.info? ty).map (·.size) = some C.size) (h : wpList P ops Q rest (a.put op.dst (.agg C)) w) : wpList P ops Q (op :: rest) a w := by
  refine wpList_load_mid hgd ty x ho b 0 hx C.toList d (blk_range hb.out 0 _ fun j hj => by simp) hu hd (by rw [hi]; simp) ?_
  simpa using h
/-- A part of a block that is known whole. -/
theorem wpList_load_part (ty : TypeId) (d : TypeDesc) {x : Operand} {b o : Nat} {C : Array Value} {t : TypeId} (cs : Array Value) (hgd : op.guard = none) (ho : op.op = .load ty x) (hx : a.eval x = .pointer (some ⟨b, o, none⟩)) [hb : IsBlk w b C t]
    (hu : P.underlying ty = some d) (hd : d.isRow = true) (hc : ∀ j, j < cs.size → C[o + j]? = cs[j]?) (hi : (P.info? ty).map (·.size) = some cs.size) (h : wpList P ops Q rest (a.put op.dst (.agg cs)) w) : wpList P ops Q (op :: rest) a w := by
  refine wpList_load_mid hgd ty x ho b o hx cs.toList d (blk_range hb.out o _ fun j hj => by rw [hc j (by simpa using hj)]; simp) hu hd (by rw [hi]; simp) ?_
  simpa using h
/-- A store of many cells into a block that is known whole. -/
theorem wpList_store_part (ty : TypeId) {x y : Operand} {b o : Nat} {C : Array Value} {t : TypeId} {cs : Array Value} (hgd : op.guard = none) (ho : op.op = .store ty x y) (hx : a.eval x = .pointer (some ⟨b, o, none⟩)) (hy : a.eval y = .agg cs) [hb : IsBlk w b C t]
    (hn : o + cs.size ≤ C.size) (hi : (P.info? ty).map (·.size) = some cs.size) (h1 : cs.all (·.oneCell') = true) (h : wpList P ops Q rest (a.put op.dst undef) (w.setCells b o cs.toList)) : wpList P ops Q (op :: rest) a w :=
  wpList_store_mid hgd ty x y ho b o cs hx hy (blk_there hb.out o _ hn) hi h1 h
end
theorem zero_of {P : Program} {t : TypeId} {v : Value} (h : (P.info? t).map (·.zero) = some (some v)) (w : World) : (zeroValue t).run P w = .ok v w := by
  cases hq : P.info? t with
  | none => simp [hq] at h
  | some i =>
    have hz : i.zero = some v := by simpa [hq] using h
    simp [zeroValue, typeInfo, hq, hz, go_sem]
end Go.Proofs.Ytbnbakienajhmaa
