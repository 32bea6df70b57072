/- Slices whose elements are structs of several plain cells: read only, opened at a call; and rows of the call's own that are appended to. -/
import Derived.Test.YtbnbakienajhmaaOpen
import Derived.Test.YtbnbakienajhmaaQld
import Derived.ChangeArms
namespace Go.Proofs.Ytbnbakienajhmaa
open Go.ChangeShapes Go.WideShapes Go.ChangeAt Go.RowKit
set_option linter.unusedVariables false

/-- A slice's elements, k cells each: cell j of element i is 'V i j'. -/
def RowK (w : World) (a : Option Addr) (k len : Nat) (V : Nat → Nat → Value) : Prop :=
  len = 0 ∨ ∃ b off, a = some ⟨b, off, none⟩ ∧ b < w.heap.size ∧ ∀ i, i < len → ∀ j, j < k → w.cell? ⟨b, off + i * k + j, none⟩ = some (V i j)
theorem RowK.below {B : Nat} {w w' : World} {a : Option Addr} {k len : Nat} {V : Nat → Nat → Value} (h : RowK w a k len V) (hb : Below B w w') (hB : w.heap.size ≤ B) : RowK w' a k len V := by
  rcases h with h | ⟨b, off, ha, hlt, hc⟩
  · exact .inl h
  · exact .inr ⟨b, off, ha, Nat.lt_of_lt_of_le hlt hb.size, fun i hi j hj => by rw [hb.cell (p := ⟨b, off + i * k + j, none⟩) (by simp; omega)]; exact hc i hi j hj⟩
theorem RowK.up {w : World} {a : Option Addr} {k len : Nat} {V : Nat → Nat → Value} (u : Up w) (h : RowK w a k len V) : RowK u.w a k len V := h.below u.bel (Nat.le_refl _)
theorem RowK.congr {w : World} {a : Option Addr} {k len : Nat} {V V' : Nat → Nat → Value} (h : RowK w a k len V) (he : ∀ i, i < len → ∀ j, j < k → V i j = V' i j) : RowK w a k len V' := by
  rcases h with h | ⟨b, off, ha, hlt, hc⟩
  · exact .inl h
  · exact .inr ⟨b, off, ha, hlt, fun i hi j hj => by rw [hc i hi j hj, he i hi j hj]⟩
/-- A part of a slice. -/
theorem RowK.part {w : World} {a : Option Addr} {k len : Nat} {V : Nat → Nat → Value} (h : RowK w a k len V) {b off : Nat} (ha : a = some ⟨b, off, none⟩) (lo n : Nat) (hn : lo + n ≤ len) :
    RowK w (some ⟨b, off + lo * k, none⟩) k n fun i j => V (lo + i) j := by
  rcases h with h | ⟨b', off', ha', hlt, hc⟩
  · exact .inl (by omega)
  · rw [ha] at ha'; cases ha'
    exact .inr ⟨b, _, rfl, hlt, fun i hi j hj => by
      have := hc (lo + i) (by omega) j hj
      rw [show off + lo * k + i * k + j = off + (lo + i) * k + j by rw [Nat.add_mul]; omega]; exact this⟩
theorem RowK.range {w : World} {b off k len : Nat} {V : Nat → Nat → Value} (h : RowK w (some ⟨b, off, none⟩) k len V) {i : Nat} (hi : i < len) (cs : List Value) (hl : cs.length = k) (hc : ∀ j, j < k → cs[j]? = some (V i j)) :
    w.rangeAt b (off + i * k) cs := by
  rcases h with h | ⟨b', off', ha', hlt, hc'⟩
  · omega
  · cases ha'
    intro j v hv
    have hj : j < k := by rw [← hl]; exact (List.getElem?_eq_some_iff.1 hv).1
    rw [hc' i hi j hj, ← hc j hj, hv]

/-- A slice of structs (fields of one cell each) that came in. -/
theorem open_rowk {H : Type} {enc : TypeId × Value → H} {P : Program} {w : World} {spare : Nat → Bool} {held : Bool} {r : Reach} {base' base : Nat} {t e k : Nat} {fs : Array Field} {v : Value} {d : DataW H} {ps : List MemPlace}
    (ht : P.underlying t = some (.slice e)) (he : P.underlying e = some (.struct fs)) (hk : P.cellsOf e = k) (hf : ((List.range k).all fun j => match fs[j]? with | some f => decide (f.offset = j ∧ P.cellsOf f.type = 1) | none => false) = true)
    (hval : Value.okWide P w r base' t v) (hd : DataW.Trod enc P w base spare held t v d ps) :
    ∃ a len cap V, v = .slice a len cap ∧ len ≤ cap ∧ cap ≤ 9223372036854775807 ∧ Hdr w a cap ∧ RowK w a k len V ∧
      ∀ i, i < len → ∀ j, j < k → ∀ f, fs[j]? = some f → ∃ n x, DataW.trod enc P w base spare held n f.type [V i j] = some x := by
  obtain ⟨a, len, cap, rfl, hl, hm⟩ := (fit_of_okWide hval (by rw [ht]; simp) (by rw [ht]; simp)).slice ht
  have hh := hdr_of_okWide ht hval
  obtain ⟨n, hn⟩ := hd
  rcases Go.Deep.open_slice ht hn with ⟨hcs, _⟩ | ⟨x, len', cap', m, n', D, Pl, hcs, _, hl', hm', hmm, hx, hV⟩
  · simp [Value.cells] at hcs
    obtain ⟨rfl, rfl, rfl⟩ := hcs
    exact ⟨none, 0, 0, fun _ _ => undef, rfl, hl, hm, hh, .inl rfl, fun i hi => absurd hi (by omega)⟩
  · simp [Value.cells] at hcs
    obtain ⟨rfl, rfl, rfl⟩ := hcs
    have hlm : len ≤ m := by rw [hmm]; split <;> omega
    rw [hk] at hV
    refine ⟨some x, len, cap, fun i j => (w.cell? (x.add (i * k + j))).getD undef, rfl, hl, hm, hh, ?_, ?_⟩
    · rcases hh with ⟨hn, _⟩ | ⟨b, off, hx', hb⟩
      · cases hn
      · cases hx'
        refine .inr ⟨b, off, rfl, hb, fun i hi j hj => ?_⟩
        obtain ⟨cs', hc1, _⟩ := hV i (by omega)
        obtain ⟨_, hlen, hcell⟩ := World.cells?_some hc1
        have := hcell j hj
        rw [Go.Deep.add_add, Addr.add_mid] at this
        simp only [Addr.add_mid]
        rw [Nat.add_assoc, this, List.getElem?_eq_getElem (by omega)]; rfl
    · intro i hi j hj f hfj
      obtain ⟨cs', hc1, hc2⟩ := hV i (by omega)
      obtain ⟨_, hlen, hcell⟩ := World.cells?_some hc1
      obtain ⟨xs, n2, _, _, _, hxl, hfield⟩ := DataW.trod_struct he hc2
      have h1 := List.all_eq_true.1 hf j (List.mem_range.2 hj)
      simp only [hfj] at h1
      have h1 := of_decide_eq_true h1
      have h2 := hfield j f hfj
      rw [h1.1, h1.2] at h2
      have hjl : j < cs'.length := by omega
      have e1 : (cs'.drop j).take 1 = [cs'[j]] := by
        rw [List.drop_eq_getElem_cons hjl, List.take_succ_cons, List.take_zero]
      rw [e1] at h2
      have h3 := hcell j hj
      rw [Go.Deep.add_add] at h3
      have hjx : j < xs.length := by rw [hxl]; exact (Array.getElem?_eq_some_iff.1 hfj).1
      refine ⟨n2, xs[j], ?_⟩
      simp only [h3, List.getElem?_eq_getElem hjl, Option.getD_some]
      rw [h2, List.getElem?_eq_getElem hjx]

/-! ### Rows of the call's own -/
section
variable {α : Type} {C : α → List Value} {e : TypeId} {k : Nat}
def OwnK (e : TypeId) (k : Nat) (C : α → List Value) (w : World) (base : Nat) (v : Value) (xs : List α) : Prop := w.ownsRow base e k v xs.length (xs.flatMap C)
theorem OwnK.nil (w : World) (base : Nat) : OwnK e k C w base (.slice none 0 0) [] := ⟨by simp, .inl ⟨rfl, rfl⟩⟩
theorem OwnK.below {w w' : World} {base : Nat} {v : Value} {xs : List α} (h : OwnK e k C w base v xs) (hb : Below w.heap.size w w') : OwnK e k C w' base v xs := by
  obtain ⟨h1, h⟩ := h
  refine ⟨h1, ?_⟩
  rcases h with h | ⟨g, cap, cur, e, hg, hc, h3, h4, h5, h6⟩
  · exact .inl h
  · exact .inr ⟨g, cap, cur, e, hg, by rw [hb.block _ (Array.getElem?_eq_some_iff.1 hc).1]; exact hc, h3, h4, h5, h6⟩
theorem OwnK.up {W : World} {base : Nat} {v : Value} {xs : List α} (h : OwnK e k C W base v xs) (u : Up W) : OwnK e k C u.w base v xs := h.below u.bel
theorem OwnK.alloc {w : World} {base : Nat} {v : Value} {xs : List α} (h : OwnK e k C w base v xs) (o : Obj) : OwnK e k C (w.alloc o) base v xs := h.below ((Below.refl _ _).alloc (Nat.le_refl _) o)
theorem OwnK.slice {w : World} {base : Nat} {v : Value} {xs : List α} (h : OwnK e k C w base v xs) : ∃ a n cap, v = .slice a n cap := by
  rcases h.2 with ⟨rfl, _⟩ | ⟨g, cap, cur, rfl, _⟩
  · exact ⟨_, _, _, rfl⟩
  · exact ⟨_, _, _, rfl⟩
theorem OwnK.ne {w : World} {base b : Nat} {v : Value} {xs : List α} (h : OwnK e k C w base v xs) (hb : b < base) : v.ownBlock ≠ some b := by
  rcases h.2 with ⟨rfl, _⟩ | ⟨g, cap, cur, rfl, hg, _⟩
  · simp [Value.ownBlock]
  · simp [Value.ownBlock]; omega
theorem OwnK.kept {w w' : World} {base : Nat} {v : Value} {xs : List α} {row : Option Nat} (h : OwnK e k C w base v xs) (hg : w.grownBy w' row) (hne : v.ownBlock = none ∨ v.ownBlock ≠ row) : OwnK e k C w' base v xs := World.ownsRow.kept h hg hne
theorem OwnK.less {w : World} {base base' : Nat} {v : Value} {xs : List α} (h : OwnK e k C w base v xs) (hb : base' ≤ base) : OwnK e k C w base' v xs := by
  obtain ⟨h1, h⟩ := h
  refine ⟨h1, ?_⟩
  rcases h with h | ⟨g, cap, cur, e, hg, hr⟩
  · exact .inl h
  · exact .inr ⟨g, cap, cur, e, by omega, hr⟩
theorem OwnK.grown {B : Nat} {w0 wr w1 : World} {o : Obj} {v : Value} {xs : List α} {base : Nat} (hown : OwnK e k C wr base v xs) (hb : Below B w0 wr) (hB : B ≤ wr.heap.size) (hbase : B ≤ base) (hg : (wr.alloc o).grownBy w1 v.ownBlock) : Below B w0 w1 := by
  refine (hb.alloc hB o).grown hg (by simp; omega) (fun j hj => ?_)
  rcases hown.2 with ⟨rfl, _⟩ | ⟨g, cap, cur, rfl, hg, _⟩
  · simp [Value.ownBlock] at hj
  · simp [Value.ownBlock] at hj; omega
theorem OwnK.grown0 {B : Nat} {w0 wr w1 : World} {v : Value} {xs : List α} {base : Nat} (hown : OwnK e k C wr base v xs) (hb : Below B w0 wr) (hB : B ≤ wr.heap.size) (hbase : B ≤ base) (hg : wr.grownBy w1 v.ownBlock) : Below B w0 w1 := by
  refine hb.grown hg (by omega) (fun j hj => ?_)
  rcases hown.2 with ⟨rfl, _⟩ | ⟨g, cap, cur, rfl, hg, _⟩
  · simp [Value.ownBlock] at hj
  · simp [Value.ownBlock] at hj; omega
theorem flat_get {k : Nat} (hC : ∀ x, (C x).length = k) : ∀ (xs : List α) (i j : Nat) (x : α), xs[i]? = some x → j < k → (xs.flatMap C)[i * k + j]? = (C x)[j]?
  | [], i, j, x, h, _ => by simp at h
  | y :: ys, 0, j, x, h, hj => by
    simp at h; subst h
    simp only [List.flatMap_cons, Nat.zero_mul, Nat.zero_add]
    rw [List.getElem?_append_left (by rw [hC]; exact hj)]
  | y :: ys, i + 1, j, x, h, hj => by
    simp only [List.flatMap_cons]
    rw [List.getElem?_append_right (by rw [hC, Nat.add_mul]; omega), hC, show (i + 1) * k + j - k = i * k + j by rw [Nat.add_mul]; omega]
    exact flat_get hC ys i j x (by simpa using h) hj
/-- What the call has laid, as a slice that is read. -/
theorem OwnK.opened (hC : ∀ x, (C x).length = k) {w : World} {base : Nat} {v : Value} {xs : List α} (h : OwnK e k C w base v xs) :
    ∃ a cap, v = .slice a xs.length cap ∧ xs.length ≤ cap ∧ cap ≤ maxLen ∧ Hdr w a cap ∧ RowK w a k xs.length fun i j => ((xs[i]?.bind fun x => (C x)[j]?).getD undef) := by
  obtain ⟨hl, h⟩ := h
  rcases h with ⟨rfl, h0⟩ | ⟨g, cap, cur, rfl, hg, hc, h3, h4, h5, h6⟩
  · exact ⟨none, 0, by rw [h0], by omega, by simp [maxLen], .inl ⟨rfl, rfl⟩, .inl h0⟩
  · have hlt : g < w.heap.size := (Array.getElem?_eq_some_iff.1 hc).1
    refine ⟨_, cap, rfl, h3, h4, .inr ⟨g, 0, rfl, hlt⟩, .inr ⟨g, 0, rfl, hlt, fun i hi j hj => ?_⟩⟩
    have hx : xs[i]? = some xs[i] := List.getElem?_eq_getElem hi
    have hij : i * k + j < xs.length * k := by
      have : (i + 1) * k ≤ xs.length * k := Nat.mul_le_mul_right k (by omega)
      rw [Nat.add_mul] at this; omega
    have h7 : (cur.toList.take (xs.length * k))[i * k + j]? = (C xs[i])[j]? := by rw [h6]; exact flat_get hC xs i j _ hx hj
    rw [List.getElem?_take, if_pos hij] at h7
    have h8 : cur[i * k + j]? = (C xs[i])[j]? := by rw [← Array.getElem?_toList]; exact h7
    have h9 : (C xs[i])[j]? = some ((C xs[i])[j]'(by rw [hC]; exact hj)) := List.getElem?_eq_getElem (by rw [hC]; exact hj)
    rw [Nat.zero_add, laid_cell hc _ (by rw [h8, h9])]
    simp [hx, h9]
theorem cells_new (w : World) (l : List Value) {t : TypeId} : ∀ j u, l[j]? = some u → (w.alloc (.cells l.toArray t)).cell? ⟨w.heap.size, j, none⟩ = some u := fun j u h => by
  rw [World.cell?_alloc_at _ _ _ _ rfl]; simpa using h
theorem wpList_app_own {P : Program} (hC : ∀ x, (C x).length = k) (bytes : Nat) (z : Value) (t : TypeId) (hu : P.underlying t = some (.slice e)) (hinfo : (P.info? e).map (fun i => (i.zero, i.size, i.bytes)) = some (some z, k, bytes)) (hz : z.cells.size = k) (hk : 0 < k) (hby : bytes ≤ 1000)
    {ops : Array Oper} {rest : List Oper} {o : Oper} {a : Act} {w : World} {Q : Exit → Act → World → Prop} (hgd : o.guard = none) (s x : Operand)
    (ho : o.op = .call { callee := .builtin .append, args := #[s, x], argTypes := #[t, t] })
    (base : Nat) {v : Value} {xs : List α} (hs : a.eval s = v) (hown : OwnK e k C w base v xs)
    {b : Nat} (y : α) (h1 : ∀ u ∈ C y, u.oneCell' = true) (hx : a.eval x = .slice (some ⟨b, 0, none⟩) 1 1) (hc : ∀ j u, (C y)[j]? = some u → w.cell? ⟨b, j, none⟩ = some u) (hn : xs.length ≤ 1000000) (hbase : base ≤ w.heap.size)
    (h : ∀ v' w', OwnK e k C w' base v' (xs ++ [y]) → w.grownBy w' v.ownBlock → wpList P ops Q rest (a.put o.dst v') w') : wpList P ops Q (o :: rest) a w := by
  obtain ⟨i0, hinfo, hz0, hz1, hz2⟩ := info_parts hinfo
  refine wpList_append_own w hgd s x t ho base e i0 z k bytes hu hinfo hz0 hz1 hz2 hz hk v xs.length _ hs hown ⟨b, 0, none⟩ 1 1 (C y) hx (by rw [hC, Nat.one_mul]) ?_ h1 ?_ ?_ hbase (fun v' w' h1 h2 _ => h v' w' ?_ h2)
  · intro j u hj; rw [Addr.add_mid, Nat.zero_add]; exact hc j u hj
  · unfold maxLen; omega
  · have : (xs.length + 1) * bytes ≤ 1000001 * 1000 := Nat.mul_le_mul (by omega) hby
    omega
  · unfold OwnK; simpa using h1
end
end Go.Proofs.Ytbnbakienajhmaa
