/- The law BookPlays. -/
import Derived.Test.YtpmnhieehkjnmaaBkH
namespace Go.Proofs.Ytpmnhieehkjnmaa
open Go.ChangeShapes Go.WideShapes Go.ChangeAt Go.RowKit
set_option linter.unusedVariables false

/-! ### Steps that came in -/
theorem cell_place {w : World} {x : Addr} {v : Value} (h : w.cell? x = some v) : ∃ b off, x = ⟨b, off, none⟩ ∧ b < w.heap.size := by
  obtain ⟨b, off, spot⟩ := x
  unfold World.cell? at h
  simp only at h
  split at h
  · rename_i c _ _ hb
    cases spot with
    | none => exact ⟨b, off, rfl, (Array.getElem?_eq_some_iff.1 hb).1⟩
    | some s => simp at h
  · cases h
/-- A slice of structs (fields of one cell each) inside of another value. -/
theorem rowk_of_trod {H : Type} {enc : TypeId × Value → H} {P : Program} {w : World} {spare : Nat → Bool} {held : Bool} {base : Nat} {t e k n : Nat} {fs : Array Field} {v : Value} {x : DataW H × List MemPlace}
    (ht : P.underlying t = some (.slice e)) (he : P.underlying e = some (.struct fs)) (hk : P.cellsOf e = k) (hk1 : 1 ≤ k) (hf : ((List.range k).all fun j => match fs[j]? with | some f => decide (f.offset = j ∧ P.cellsOf f.type = 1) | none => false) = true)
    (hn : DataW.trod enc P w base spare held n t [v] = some x) :
    ∃ a len cap V, v = .slice a len cap ∧ RowK w a k len V ∧
      ∀ i, i < len → ∀ j, j < k → ∀ f, fs[j]? = some f → ∃ n x, DataW.trod enc P w base spare held n f.type [V i j] = some x := by
  rcases Go.Deep.open_slice ht hn with ⟨hcs, _⟩ | ⟨x, len, cap, m, n', D, Pl, hcs, _, hl', hm', hmm, hx, hV⟩
  · cases hcs
    exact ⟨none, 0, 0, fun _ _ => undef, rfl, .inl rfl, fun i hi => absurd hi (by omega)⟩
  · cases hcs
    have hlm : len ≤ m := by rw [hmm]; split <;> omega
    rw [hk] at hV
    refine ⟨some x, len, cap, fun i j => (w.cell? (x.add (i * k + j))).getD undef, rfl, ?_, ?_⟩
    · by_cases h0 : len = 0
      · exact .inl h0
      · obtain ⟨cs', hc1, _⟩ := hV 0 (by omega)
        obtain ⟨_, hlen, hcell⟩ := World.cells?_some hc1
        have h00 := hcell 0 (by omega)
        rw [Go.Deep.add_add, show 0 * k + 0 = 0 by omega, show x.add 0 = x from rfl, List.getElem?_eq_getElem (by omega)] at h00
        obtain ⟨b, off, rfl, hb⟩ := cell_place h00
        refine .inr ⟨b, off, rfl, hb, fun i hi j hj => ?_⟩
        obtain ⟨cs', hc1, _⟩ := hV i (by omega)
        obtain ⟨_, hlen, hcell⟩ := World.cells?_some hc1
        have := hcell j hj
        rw [Go.Deep.add_add, Addr.add_mid] at this
        simp only [Addr.add_mid]
        rw [Nat.add_assoc, this, List.getElem?_eq_getElem (by omega)]; rfl
    · intro i hi j hj f hfj
      obtain ⟨cs', hc1, hc2⟩ := hV i (by omega)
      obtain ⟨_, hlen, hcell⟩ := World.cells?_some hc1
      obtain ⟨xs, n2, _, _, _, hxl, hfield⟩ := DataW.trod_struct he hc2
      have h1 := List.all_eq_true.1 hf j (List.mem_range.2 hj)
      simp only [hfj] at h1
      have h1 := of_decide_eq_true h1
      have h2 := hfield j f hfj
      rw [h1.1, h1.2] at h2
      have hjl : j < cs'.length := by omega
      have e1 : (cs'.drop j).take 1 = [cs'[j]] := by
        rw [List.drop_eq_getElem_cons hjl, List.take_succ_cons, List.take_zero]
      rw [e1] at h2
      have h3 := hcell j hj
      rw [Go.Deep.add_add] at h3
      have hjx : j < xs.length := by rw [hxl]; exact (Array.getElem?_eq_some_iff.1 hfj).1
      refine ⟨n2, xs[j], ?_⟩
      simp only [h3, List.getElem?_eq_getElem hjl, Option.getD_some]
      rw [h2, List.getElem?_eq_getElem hjx]
/-- A step, as it came in. -/
structure Stp where
  K : Int
  At : Int
  A : Option Addr
  cap : Nat
  L : List Ev
def stC (s : Stp) : List Value := [.int .i64 s.K, .int .i64 s.At, .slice s.A s.L.length s.cap]
def stV (S : List Stp) (i j : Nat) : Value := ((S[i]?.bind fun x => (stC x)[j]?).getD undef)
structure Stps (w : World) (a : Option Addr) (S : List Stp) : Prop where
  row : RowK w a 3 S.length (stV S)
  ev : ∀ s ∈ S, Evs w s.A s.L ∧ InKind .i64 s.At
theorem Stps.below {B : Nat} {w w' : World} {a : Option Addr} {S : List Stp} (h : Stps w a S) (hb : Below B w w') (hB : w.heap.size ≤ B) : Stps w' a S :=
  ⟨h.row.below hb hB, fun s hs => ⟨(h.ev s hs).1.below hb hB, (h.ev s hs).2⟩⟩
theorem Stps.at {w : World} {a : Option Addr} {S : List Stp} (h : Stps w a S) {i : Nat} {s : Stp} (hi : S[i]? = some s) :
    ∃ b off, a = some ⟨b, off, none⟩ ∧ LeSize (b + 1) w ∧ w.cell? ⟨b, off + i * 3, none⟩ = some (.int .i64 s.K) ∧ w.cell? ⟨b, off + i * 3 + 1, none⟩ = some (.int .i64 s.At) ∧ w.cell? ⟨b, off + i * 3 + 2, none⟩ = some (.slice s.A s.L.length s.cap) := by
  have hlt := (List.getElem?_eq_some_iff.1 hi).1
  rcases h.row with h | ⟨b, off, ha, hlt', hc⟩
  · omega
  · have e : stV S i 0 = .int .i64 s.K ∧ stV S i 1 = .int .i64 s.At ∧ stV S i 2 = .slice s.A s.L.length s.cap := by simp [stV, hi, stC]
    obtain ⟨e0, e1, e2⟩ := e
    exact ⟨b, off, ha, ⟨hlt'⟩, by rw [← e0]; exact hc i hlt 0 (by omega), by rw [← e1]; exact hc i hlt 1 (by omega), by rw [← e2]; exact hc i hlt 2 (by omega)⟩
theorem evs_of_trod {H : Type} {enc : TypeId × Value → H} {w : World} {spare : Nat → Bool} {held : Bool} {base n : Nat} {v : Value} {x : DataW H × List MemPlace}
    (hn : DataW.trod enc Try.prog w base spare held n 28 [v] = some x) : ∃ a cap, ∃ L : List Ev, v = .slice a L.length cap ∧ Evs w a L := by
  obtain ⟨a, len, cap, V, rfl, h4, h5⟩ := rowk_of_trod Try.underlying28 Try.underlying34 (k := 3) (by kernel_rfl) (by omega) (by kernel_rfl) hn
  have hf : ∀ i, i < len → ∀ j, j < 3 → ∃ n, V i j = .int .i64 n ∧ InKind .i64 n := fun i hi j hj => by
    rcases (show j = 0 ∨ j = 1 ∨ j = 2 by omega) with rfl | rfl | rfl
    all_goals
      obtain ⟨n, x, hx⟩ := h5 i hi _ (by omega) _ rfl
      exact (fit_of_trod1 (t := 3) (by rw [Try.underlying3]) hx).int Try.underlying3
  obtain ⟨L, rfl, hL⟩ := evs_of hf
  exact ⟨a, cap, L, rfl, h4.congr hL⟩
theorem open_steps {H : Type} {enc : TypeId × Value → H} {w : World} {spare : Nat → Bool} {held : Bool} {r : Go.Reach} {base' base : Nat} {v : Value} {d : DataW H} {ps : List MemPlace}
    (hval : Value.okWide Try.prog w r base' 22 v) (hd : DataW.Trod enc Try.prog w base spare held 22 v d ps) :
    ∃ a cap, ∃ S : List Stp, v = .slice a S.length cap ∧ S.length ≤ cap ∧ cap ≤ 9223372036854775807 ∧ Stps w a S := by
  obtain ⟨a, len, cap, V, rfl, h1, h2, h3, h4, h5⟩ := open_rowk Try.underlying22 Try.underlying30 (k := 3) (by kernel_rfl) (by kernel_rfl) hval hd
  have hf : ∀ i, ∃ s : Stp, i < len → (∀ j, j < 3 → V i j = (stC s).getD j undef) ∧ Evs w s.A s.L ∧ InKind .i64 s.At := fun i => by
    by_cases hi : i < len
    · obtain ⟨n0, x0, hx0⟩ := h5 i hi 0 (by omega) _ rfl
      obtain ⟨n1, x1, hx1⟩ := h5 i hi 1 (by omega) _ rfl
      obtain ⟨n2, x2, hx2⟩ := h5 i hi 2 (by omega) _ rfl
      obtain ⟨k0, e0, _⟩ := (fit_of_trod1 (t := 3) (by rw [Try.underlying3]) hx0).int Try.underlying3
      obtain ⟨k1, e1, i1⟩ := (fit_of_trod1 (t := 3) (by rw [Try.underlying3]) hx1).int Try.underlying3
      obtain ⟨a2, c2, L2, e2, hE⟩ := evs_of_trod hx2
      exact ⟨⟨k0, k1, a2, c2, L2⟩, fun _ => ⟨fun j hj => by rcases (show j = 0 ∨ j = 1 ∨ j = 2 by omega) with rfl | rfl | rfl <;> simp [stC, e0, e1, e2], hE, i1⟩⟩
    · exact ⟨⟨0, 0, none, 0, []⟩, fun h => absurd h hi⟩
  obtain ⟨f, hf⟩ := Classical.skolem.1 hf
  have hg : ∀ i, i < len → ((List.range len).map f)[i]? = some (f i) := fun i hi => by simp [hi]
  refine ⟨a, cap, (List.range len).map f, by simp, by simpa using h1, h2, ⟨?_, ?_⟩⟩
  · have : ((List.range len).map f).length = len := by simp
    rw [this]
    exact h4.congr fun i hi j hj => by
      rw [(hf i hi).1 j hj]
      simp only [stV, hg i hi, Option.bind_some, List.getD]
  · intro s hs
    obtain ⟨i, hi, rfl⟩ := List.mem_map.1 hs
    exact (hf i (List.mem_range.1 hi)).2

/-! ### The book and the reference's -/
theorem BookAt.grown {w w' : World} {b x : Nat} {v : Value} {B : Bk} (h : BookAt w b v B) (hg : w.grownBy w' (some x)) (hb : b ≠ x) (hv : v.ownBlock ≠ some x) : BookAt w' b v B :=
  ⟨by rw [hg.block b h.lt (by simpa using hb)]; exact h.blk, h.row.kept hg (.inr hv), h.ok⟩
theorem RefAt.moved {w w' : World} {x b : Nat} {a : Option Addr} {cap : Nat} {B : Bk} {v v' : Value} {n n' : Nat} (h : RefAt w x a cap B) (m : Moved w w' b v v' n n') (hx : x ≠ b) (hv : v.ownBlock ≠ some x) (ha : ∀ ad, a = some ad → ad.block ≠ b ∧ v.ownBlock ≠ some ad.block) : RefAt w' x a cap B :=
  h.kept m.size (m.block x h.lt hx hv) fun ad hd => m.block _ (h.past ad hd).2 (ha ad hd).1 (ha ad hd).2
/-- A book and the reference's, alike. -/
structure Duo (w wr : World) (b x : Nat) (v : Value) (a : Option Addr) (cap : Nat) (B : Bk) : Prop where
  K : BookAt wr b v B
  R : RefAt wr x a cap B
  lo : w.heap.size ≤ b ∧ b < x
  own : v.ownBlock ≠ some x
  apart : ∀ ad, a = some ad → v.ownBlock ≠ some ad.block
  bel : Below w.heap.size w wr
theorem Duo.below {w wr w' : World} {b x : Nat} {v : Value} {a : Option Addr} {cap : Nat} {B : Bk} (h : Duo w wr b x v a cap B) (hb : Below wr.heap.size wr w') : Duo w w' b x v a cap B :=
  ⟨h.K.below hb, h.R.below hb, h.lo, h.own, h.apart, h.bel.trans (hb.mono h.bel.size)⟩
/-- The book has moved on, the reference's not yet. -/
structure Half (w wr : World) (b x : Nat) (v : Value) (a : Option Addr) (cap : Nat) (B B' : Bk) : Prop where
  K : BookAt wr b v B'
  R : RefAt wr x a cap B
  lo : w.heap.size ≤ b ∧ b < x
  own : v.ownBlock ≠ some x
  apart : ∀ ad, a = some ad → v.ownBlock ≠ some ad.block
  bel : Below w.heap.size w wr
theorem Duo.put {w wr w' : World} {b x : Nat} {v v' : Value} {a : Option Addr} {cap : Nat} {B B' : Bk} (h : Duo w wr b x v a cap B) (hk : BookAt w' b v' B') (m : Moved wr w' b v v' B.L.length B'.L.length) : Half w w' b x v' a cap B B' :=
  ⟨hk, h.R.moved m (by have := h.lo; omega) h.own (fun ad hd => ⟨by have := h.R.past ad hd; have := h.lo; omega, h.apart ad hd⟩), h.lo,
    fun e => by rcases m.own _ e with h1 | h1; exact h.own h1; have := h.R.lt; omega,
    fun ad hd e => by rcases m.own _ e with h1 | h1; exact h.apart ad hd h1; have := (h.R.past ad hd).2; omega,
    h.bel.trans (m.bel h.lo.1 h.K.lt (fun j hj => (h.K.own j hj).2.2))⟩
theorem Half.put {w wr w' : World} {b x : Nat} {v : Value} {a a' : Option Addr} {cap cap' : Nat} {B B' : Bk} (h : Half w wr b x v a cap B B') (hr : RefAt w' x a' cap' B') (hg : wr.grownBy w' (some x)) (hf : ∀ ad, a' = some ad → (∃ ad0, a = some ad0 ∧ ad0.block = ad.block) ∨ wr.heap.size ≤ ad.block) : Duo w w' b x v a' cap' B' :=
  ⟨h.K.grown hg (by have := h.lo; omega) h.own, hr, h.lo, h.own,
    fun ad hd e => by
      rcases hf ad hd with ⟨ad0, h0, e0⟩ | h1
      · rw [← e0] at e; exact h.apart ad0 h0 e
      · have := (h.K.own _ e).1; omega,
    h.bel.trans ⟨hg.os, hg.tape, hg.output, hg.size, fun k hk => hg.block k (by have := h.bel.size; omega) (by have := h.lo; simp; omega)⟩⟩
theorem duo_new (n : Int) (w : World) : Duo w ((w.alloc (.cells #[.slice none 0 0, .int .i64 (roomM n), .int .i64 0] 50)).alloc (.cells #[.int .i64 (roomM n), .slice none 0 0, .int .i64 0] 38)) w.heap.size (w.heap.size + 1) (.slice none 0 0) none 0 (Bk.new n) := by
  refine ⟨(bookAt_new n w).below ((Below.refl _ _).alloc (Nat.le_refl _) _), ⟨?_, .inl rfl, ⟨Nat.le_refl _, by decide⟩, fun ad h => (by cases h), fun _ => rfl, Bk.new_ok n⟩, ⟨Nat.le_refl _, by omega⟩, by simp [Value.ownBlock], fun ad h => (by cases h), ((Below.refl _ w).alloc (Nat.le_refl _) _).alloc (by simp) _⟩
  have := heap_alloc_here (w.alloc (.cells #[.slice none 0 0, .int .i64 (roomM n), .int .i64 0] 50)) (.cells #[.int .i64 (roomM n), .slice none 0 0, .int .i64 0] 38)
  simpa [Bk.new] using this
end Go.Proofs.Ytpmnhieehkjnmaa
