/- The contract of the table's numbers: rows. -/
import Derived.Test.YtbnbakienajhmaaTabC
import Derived.Test.YtbnbakienajhmaaEnvF
import Derived.RangeFuncBox
namespace Go.Proofs.Ytbnbakienajhmaa
open Go.RowKit
set_option linter.unusedVariables false

theorem info_pair : (Try.prog.info? 92).map (fun i => (i.zero, i.size, i.bytes)) = some (some (.agg #[.slice none 0 0, .slice none 0 0]), 2, 48) := by kernel_rfl
def prC (h : Value × Value) : List Value := [h.1, h.2]
theorem prC_len (x : Value × Value) : (prC x).length = 2 := rfl
def OwnPairs (w : World) (base : Nat) (v : Value) (hs : List (Value × Value)) : Prop := w.ownsRow base 92 2 v hs.length (hs.flatMap prC)
/-- The rows that the headers lead to, of the call's own. -/
def PairsOf (w : World) (base : Nat) (hs : List (Value × Value)) (gr : List (List Int × List Int)) : Prop :=
  hs.length = gr.length ∧ ∀ (i : Nat) (h : Value × Value) (x : List Int × List Int), hs[i]? = some h → gr[i]? = some x → OwnInts w base h.1 x.1 ∧ OwnInts w base h.2 x.2
theorem own_ne {w : World} {b1 b2 k n n' m : Nat} {v u : Value} {xs : List Value} {ys : List Value} {e1 e2 : TypeId} (he : e1 ≠ e2) (h1 : w.ownsRow b1 e1 k v n xs) (h2 : w.ownsRow b2 e2 m u n' ys) : u.ownBlock = none ∨ u.ownBlock ≠ v.ownBlock := by
  rcases h2.2 with ⟨rfl, _⟩ | ⟨g, cap, cur, rfl, _, hc, _⟩
  · exact .inl rfl
  · rcases h1.2 with ⟨rfl, _⟩ | ⟨g', cap', cur', rfl, _, hc', _⟩
    · right; simp [Value.ownBlock]
    · right
      simp only [Value.ownBlock, ne_eq, Option.some.injEq]
      rintro rfl
      rw [hc] at hc'
      cases hc'
      exact he rfl
theorem OwnInts.kept {w w' : World} {base : Nat} {v : Value} {xs : List Int} {row : Option Nat} (h : OwnInts w base v xs) (hg : w.grownBy w' row) (hne : v.ownBlock = none ∨ v.ownBlock ≠ row) : OwnInts w' base v xs := World.ownsRow.kept h hg hne
theorem OwnInts.less {w : World} {base base' : Nat} {v : Value} {xs : List Int} (h : OwnInts w base v xs) (hb : base' ≤ base) : OwnInts w base' v xs := by
  obtain ⟨h1, h⟩ := h
  refine ⟨h1, ?_⟩
  rcases h with h | ⟨g, cap, cur, e, hg, hr⟩
  · exact .inl h
  · exact .inr ⟨g, cap, cur, e, by omega, hr⟩
theorem OwnInts.slice {w : World} {base : Nat} {v : Value} {xs : List Int} (h : OwnInts w base v xs) : ∃ a n cap, v = .slice a n cap := by
  rcases h.2 with ⟨rfl, _⟩ | ⟨g, cap, cur, rfl, _⟩
  · exact ⟨_, _, _, rfl⟩
  · exact ⟨_, _, _, rfl⟩
theorem OwnInts.ne {w : World} {base b : Nat} {v : Value} {xs : List Int} (h : OwnInts w base v xs) (hb : b < base) : v.ownBlock ≠ some b := by
  rcases h.2 with ⟨rfl, _⟩ | ⟨g, cap, cur, rfl, hg, _⟩
  · simp [Value.ownBlock]
  · simp [Value.ownBlock]; omega
theorem OwnInts.lt {w : World} {base b : Nat} {v : Value} {xs : List Int} (h : OwnInts w base v xs) (hb : w.heap.size ≤ b) : v.ownBlock ≠ some b := by
  rcases h.2 with ⟨rfl, _⟩ | ⟨g, cap, cur, rfl, hg, hc, _⟩
  · simp [Value.ownBlock]
  · have := (Array.getElem?_eq_some_iff.1 hc).1
    simp [Value.ownBlock]; omega
theorem PairsOf.kept {w w' : World} {base : Nat} {hs : List (Value × Value)} {gr : List (List Int × List Int)} {row : Option Nat} (h : PairsOf w base hs gr) (hg : w.grownBy w' row) (hne : ∀ v xs, OwnInts w base v xs → v.ownBlock = none ∨ v.ownBlock ≠ row) : PairsOf w' base hs gr :=
  ⟨h.1, fun i p x hp hx => ⟨(h.2 i p x hp hx).1.kept hg (hne _ _ (h.2 i p x hp hx).1), (h.2 i p x hp hx).2.kept hg (hne _ _ (h.2 i p x hp hx).2)⟩⟩
theorem PairsOf.below {w w' : World} {base : Nat} {hs : List (Value × Value)} {gr : List (List Int × List Int)} (h : PairsOf w base hs gr) (hb : Below w.heap.size w w') : PairsOf w' base hs gr :=
  ⟨h.1, fun i p x hp hx => ⟨(h.2 i p x hp hx).1.below hb, (h.2 i p x hp hx).2.below hb⟩⟩
theorem PairsOf.snoc {w : World} {base : Nat} {hs : List (Value × Value)} {gr : List (List Int × List Int)} (h : PairsOf w base hs gr) {p : Value × Value} {x : List Int × List Int} (h1 : OwnInts w base p.1 x.1) (h2 : OwnInts w base p.2 x.2) : PairsOf w base (hs ++ [p]) (gr ++ [x]) := by
  refine ⟨by simp [h.1], fun i q y hq hy => ?_⟩
  rcases Nat.lt_trichotomy i hs.length with hi | hi | hi
  · rw [List.getElem?_append_left hi] at hq
    rw [List.getElem?_append_left (by rw [← h.1]; exact hi)] at hy
    exact h.2 i q y hq hy
  · subst hi
    rw [List.getElem?_append_right (Nat.le_refl _)] at hq
    rw [h.1, List.getElem?_append_right (Nat.le_refl _)] at hy
    simp at hq hy
    subst hq hy
    exact ⟨h1, h2⟩
  · rw [List.getElem?_eq_none (by simp; omega)] at hq; cases hq
/-- What rows leaves: the table's block with its groups, all else as it was. -/
structure RowsEnd (w w' : World) (bt : Nat) (C : Array Value) (gr : List (List Int × List Int)) : Prop where
  out : ∃ v hs, w'.heap[bt]? = some (.cells (C.setIfInBounds 104 v) 32) ∧ OwnPairs w' w.heap.size v hs ∧ PairsOf w' w.heap.size hs gr
  below : Below bt w w'
theorem fillR_succ (p m : Nat) : fillR p (m + 1) = fillR p m ++ [((p + m : Nat) : Int)] := by
  unfold fillR; rw [List.range_succ, List.map_append]; rfl
theorem blk_past {b : Nat} {w w' : World} {o : Obj} (h : w.heap[b]? = some o) (hb : Below w.heap.size w w') : w'.heap[b]? = some o := by
  rw [hb.block _ (Array.getElem?_eq_some_iff.1 h).1]; exact h
theorem blk_grown {b : Nat} {w w' : World} {o o2 : Obj} {row : Option Nat} (h : w.heap[b]? = some o) (hg : (w.alloc o2).grownBy w' row) (hne : row ≠ some b) : w'.heap[b]? = some o := by
  have hl := (Array.getElem?_eq_some_iff.1 h).1
  rw [hg.block b (by simp; omega) (fun e => hne e.symm), Below.heap_alloc _ _ _ hl]; exact h
theorem grownBy_set (w : World) (b i : Nat) (u : Value) : w.grownBy (w.setCell ⟨b, i, none⟩ u) (some b) :=
  ⟨rfl, rfl, rfl, by simp [World.setCell], fun k _ hk => Below.heap_setCell _ _ _ _ (by simpa using hk)⟩
theorem OwnInts.top {w : World} {base g : Nat} {v : Value} {xs : List Int} (h : OwnInts w base v xs) (hg : v.ownBlock = some g) : g < w.heap.size := by
  rcases h.2 with ⟨rfl, _⟩ | ⟨g', cap, cur, rfl, _, hc, _⟩
  · simp [Value.ownBlock] at hg
  · simp [Value.ownBlock] at hg; subst hg; exact (Array.getElem?_eq_some_iff.1 hc).1
theorem own_apart {w : World} {B : Nat} {v u : Value} {xs : List Int} (h0 : ∀ g, u.ownBlock = some g → g < B) (h1 : OwnInts w B v xs) : u.ownBlock = none ∨ u.ownBlock ≠ v.ownBlock := by
  rcases h1.2 with ⟨rfl, _⟩ | ⟨g', cap, cur, rfl, hg, hc, _⟩
  · cases hu : u.ownBlock with
    | none => exact .inl rfl
    | some g => right; simp [Value.ownBlock]
  · cases hu : u.ownBlock with
    | none => exact .inl rfl
    | some g =>
      have := h0 g hu
      right; simp [Value.ownBlock]; omega
theorem OwnInts.drop {w : World} {base b i : Nat} {v u : Value} {xs : List Int} (h : OwnInts w base v xs) (hb : v.ownBlock ≠ some b) : OwnInts (w.setCell ⟨b, i, none⟩ u) base v xs :=
  OwnInts.kept h (grownBy_set w b i u) (.inr hb)
attribute [local go_sem] IsBlk.cell IsBlk.frozen
set_option maxHeartbeats 8000000 in
set_option maxRecDepth 100000 in
theorem lrows_any (a : Option Addr) (cap : Nat) (zs : List Int) (bt : Nat) (C : Array Value) (w : World) (hl : zs.length ≤ 9223372036854775807) (hz : ∀ w', Below bt w w' → Ints w' a zs)
    (hC : w.heap[bt]? = some (.cells C 32)) (hbt : bt + 1 = w.heap.size) (hs : C.size = 131) (h104 : C[104]? = some (.slice none 0 0)) :
    Calls Try.prog 25 #[.pointer (some ⟨bt, 0, none⟩), .slice a zs.length cap] w fun e w' => e = .returned (.int .i64 (rowsM zs).1) ∧ RowsEnd w w' bt C (rowsM zs).2 := by
  have HZ := Lib.hid hz
  have HZL := Lib.hid hl
  have HBT := Lib.hid hbt
  have HSZ := Lib.hid hs
  have K := groupsN_bd zs
  obtain ⟨x0, hx0⟩ : ∃ x, frI zs 0 3 = x := ⟨_, rfl⟩
  have ek2 : 1 + x0 = ((groupsN zs : Nat) : Int) := by have := fr_bd zs 0 (n := 3) (by omega); rw [← hx0, frI_of zs 0 0 3 rfl]; unfold groupsN; omega
  have HG : Hid (∀ g, g ≤ groupsN zs → (rowsGo zs (groupsN zs) g).1 ≤ 8 ∧ (rowsGo zs (groupsN zs) g).2.length = g) := Lib.hid fun g hg => by have := rowsGo_bd zs _ K.2 g hg; omega
  unfold rowsM
  generalize groupsN zs = k at *
  clear hl hbt hs
  go_enter Try.func25, Try.ntmps25
  go_wp2_with (go_at_call 27; refine (from_any _ _ _ _ _ _ HZL.out (by omega) (by omega) (HZ.out _ (Below.refl _ _))).mono ?_; rintro e w' ⟨rfl, rfl⟩)
  clear hx0 ek2
  go_loopw [6, 7] (fun p g wr => ∃ n : Nat, n ≤ k ∧ g = .int .i64 n ∧ p = .int .i64 ((rowsGo zs k n).1 : Int) ∧ (∃ v hs, wr.heap[bt]? = some (.cells (C.setIfInBounds 104 v) 32) ∧ OwnPairs wr w.heap.size v hs ∧ PairsOf wr w.heap.size hs (rowsGo zs k n).2) ∧ Below bt w wr) (fun _ g _ => k - (intOf g).toNat)
  case atStart => exact ⟨0, Nat.zero_le _, rfl, rfl, ⟨.slice none 0 0, [], by rw [hC]; congr 2; refine Array.ext (by simp) fun i h1 h2 => ?_; rw [Array.getElem_setIfInBounds]; split; (rename_i he; subst he; rw [Array.getElem?_eq_getElem h1] at h104; exact Option.some.inj h104); rfl, ⟨rfl, .inl ⟨rfl, rfl⟩⟩, ⟨rfl, fun i h x hh => by simp at hh⟩⟩, Below.refl _ _⟩
  case round =>
    obtain ⟨n, hn, rfl, rfl, ⟨v, hs, hbk, hown, hpr⟩, hb⟩ := hrel
    have hB := hb.size
    by_cases hlt : n < k
    · obtain ⟨W1, rfl⟩ : ∃ x, x = wr := ⟨_, rfl⟩
      obtain ⟨br, hbr⟩ : ∃ br, W1.heap.size = br := ⟨_, rfl⟩
      obtain ⟨q0, hq⟩ : ∃ q0, (rowsGo zs k n).1 = q0 := ⟨_, rfl⟩
      have HQ := Lib.hid hq
      have hq8 : q0 ≤ 8 := by rw [← hq]; exact (HG.out n hn).1
      obtain ⟨lim, hlim⟩ : ∃ l, 8 - (k - 1 - n) = l := ⟨_, rfl⟩
      have hlI : (8 : Int) - ((k : Int) - 1 - n) = lim := by omega
      have HLM := Lib.hid hlim
      obtain ⟨W2, hW2⟩ : ∃ W2, W1.alloc (.cells #[.slice none 0 0, .slice none 0 0] 92) = W2 := ⟨_, rfl⟩
      have h2s : W2.heap.size = br + 1 := by rw [← hW2, ← hbr]; simp
      have h2b : W2.heap[br]? = some (.cells #[.slice none 0 0, .slice none 0 0] 92) := by rw [← hW2, ← hbr]; exact heap_alloc_here _ _
      have hB2 : Below br W1 W2 := by rw [← hW2, ← hbr]; exact (Below.refl _ W1).alloc (Nat.le_refl _) _
      have hbw2 : Below bt w W2 := hb.trans (hB2.mono (by have := HBT.out; omega))
      have hbtl : bt < br := by have := HBT.out; omega
      have h2t : W2.heap[bt]? = some (.cells (C.setIfInBounds 104 v) 32) := by rw [hB2.block _ hbtl]; exact hbk
      obtain ⟨n0, hn0⟩ : ∃ n0, rw0 zs n = n0 := ⟨_, rfl⟩
      have en0 : frI zs (1 + 2 * (n : Int)) 3 = (n0 : Int) := by
        rw [frI_of zs _ (1 + 2 * n) 3 (by omega), ← hn0]; have := fr_bd zs (1 + 2 * n) (n := 3) (by omega); unfold rw0; omega
      have hbrw : w.heap.size ≤ br := by omega
      rw [hq]
      have HOW := Lib.hid hown
      have HPR := Lib.hid hpr
      have HB2 := Lib.hid hB2
      have HBR := Lib.hid hbr
      clear hq hlim hbk hown hpr hb hB
      go_wp2
      clear hW2 hbr
      go_loopw [6, 9] (fun p j w2 =>
        (j = .int .i64 0 ∧ p = .int .i64 (q0 : Int) ∧ w2 = W2) ∨
        (j = .int .i64 1 ∧ ∃ m0 : Nat, m0 = fillN n0 q0 lim ∧ p = .int .i64 ((q0 + m0 : Nat) : Int) ∧ ∃ v0, w2.heap[br]? = some (.cells #[v0, .slice none 0 0] 92) ∧ OwnInts w2 (br + 1) v0 (fillR q0 m0) ∧ Below br W2 w2) ∨
        (j = .int .i64 2 ∧ ∃ m0 m1 : Nat, m0 = fillN n0 q0 lim ∧ m1 = fillN (rw1 zs n m0) (q0 + m0) lim ∧ p = .int .i64 ((q0 + m0 + m1 : Nat) : Int) ∧ ∃ v0 v1, w2.heap[br]? = some (.cells #[v0, v1] 92) ∧ OwnInts w2 (br + 1) v0 (fillR q0 m0) ∧ OwnInts w2 (br + 1) v1 (fillR (q0 + m0) m1) ∧ Below br W2 w2)) (fun _ j _ => 2 - (intOf j).toNat)
      case atStart => exact .inl ⟨rfl, rfl, rfl⟩
      case round =>
        rcases hrel with ⟨rfl, rfl, rfl⟩ | ⟨rfl, m0, hm0, rfl, v0, h3b, ho0, hb3⟩ | ⟨rfl, m0, m1, hm0, hm1, rfl, v0, v1, h3b, ho0, ho1, hb3⟩
        · obtain ⟨W2, rfl⟩ : ∃ x, x = wr := ⟨_, rfl⟩
          go_wp2_with (go_at_call 27; refine (from_any _ _ _ _ _ _ HZL.out (by omega) (by omega) (HZ.out _ hbw2)).mono ?_; rintro e w' ⟨rfl, rfl⟩)
          go_loopw [6, 11] (fun p i w3 => ∃ m : Nat, m ≤ fillN n0 q0 lim ∧ i = .int .i64 m ∧ p = .int .i64 ((q0 + m : Nat) : Int) ∧ ∃ v0, w3.heap[br]? = some (.cells #[v0, .slice none 0 0] 92) ∧ OwnInts w3 (br + 1) v0 (fillR q0 m) ∧ Below br W2 w3) (fun _ i _ => n0 - (intOf i).toNat)
          case atStart => exact ⟨0, Nat.zero_le _, rfl, rfl, _, h2b, OwnInts.nil _ _, Below.refl _ _⟩
          case round =>
            obtain ⟨m, hm, rfl, rfl, v0, h3b, ho0, hb3⟩ := hrel
            have hB3 := hb3.size
            rw [h2s] at hB3
            by_cases hml : m < fillN n0 q0 lim
            · have hm1 : m < n0 ∧ q0 + m < lim := by unfold fillN at hml; omega
              obtain ⟨hm1, hm2⟩ := hm1
              haveI : IsBlk wr br #[v0, .slice none 0 0] 92 := ⟨h3b⟩
              have hfl : (fillR q0 m).length ≤ 1000000 := by simp [fillR]; omega
              go_wp2_with (at_builtin; refine wpList_app_int rfl _ _ rfl (br + 1) rfl (ho0.alloc _) (b := wr.heap.size) (y := ((q0 + m : Nat) : Int)) rfl (by simp) hfl (by simp; omega) ?_; intro v' w1 hown' hg; obtain ⟨a', n', cap', rfl⟩ := hown'.slice; haveI : IsBlk w1 br #[v0, .slice none 0 0] 92 := ⟨blk_grown h3b hg (ho0.ne (by omega))⟩)
              go_roundw
              case rel => exact ⟨m + 1, by omega, by go_num, by first | go_num | (congr 1; omega) | congr 1, _, (inferInstance : IsBlk (w1.setCell ⟨br, 0, none⟩ (.slice a' n' cap')) br (#[v0, .slice none 0 0].setIfInBounds 0 (.slice a' n' cap')) 92).out, by rw [fillR_succ]; exact hown'.drop (hown'.ne (by omega)), (ho0.grown hb3 (by omega) (by omega) hg).setCell (p := ⟨br, 0, none⟩) (Nat.le_refl _) _⟩
              case measure => simp [intOf]; omega
            · have hme : m = fillN n0 q0 lim := by omega
              by_cases hmn : m < n0
              · have hm2 : lim ≤ q0 + m := by unfold fillN at hme; omega
                go_wp2
                go_roundw
                case rel => exact .inr (.inl ⟨rfl, m, hme, by first | (congr 1; omega) | congr 1, v0, h3b, ho0, hb3⟩)
                case measure => simp [intOf]
              · go_wp2
                go_roundw
                case rel => exact .inr (.inl ⟨rfl, m, hme, by first | (congr 1; omega) | congr 1, v0, h3b, ho0, hb3⟩)
                case measure => simp [intOf]
        · obtain ⟨W3, rfl⟩ : ∃ x, x = wr := ⟨_, rfl⟩
          have hB3 := hb3.size
          rw [h2s] at hB3
          have hW3s : br + 1 ≤ W3.heap.size := hB3
          have hbw3 : Below bt w W3 := hbw2.trans (hb3.mono (by omega))
          obtain ⟨n1, hn1⟩ : ∃ n1, rw1.rw0b zs n = n1 := ⟨_, rfl⟩
          have en1 : frI zs (1 + 2 * (n : Int) + 1) 3 = (n1 : Int) := by
            rw [frI_of zs _ (2 + 2 * n) 3 (by omega), ← hn1]; have := fr_bd zs (2 + 2 * n) (n := 3) (by omega); unfold rw1.rw0b; omega
          obtain ⟨N1, hN1⟩ : ∃ N1, rw1 zs n m0 = N1 := ⟨_, rfl⟩
          have hN1' : N1 = if n1 = 0 ∧ m0 = 0 then 1 else n1 := by rw [← hN1]; unfold rw1; rw [hn1]
          have HN1 := Lib.hid hN1
          clear hn1 hN1
          haveI : IsBlk W3 br #[v0, .slice none 0 0] 92 := ⟨h3b⟩
          obtain ⟨a0, cap0, hv0, hi0⟩ := ho0.opened
          rw [show (fillR q0 m0).length = m0 by simp [fillR]] at hv0
          subst hv0
          clear hi0
          have hq8' : q0 + m0 ≤ 8 + 8 := by rw [hm0]; unfold fillN; omega
          have HM0 := Lib.hid hm0
          have hm8 : m0 ≤ 8 := by rw [hm0]; unfold fillN; omega
          clear hm0
          have hV0 : ∀ g, (Value.slice a0 m0 cap0).ownBlock = some g → g < W3.heap.size := fun g hg => ho0.top hg
          have hc : (n1 = 0 ∧ m0 = 0 ∧ N1 = 1) ∨ (n1 ≠ 0 ∧ N1 = n1) ∨ (n1 = 0 ∧ m0 ≠ 0 ∧ N1 = 0) := by
            by_cases h1 : n1 = 0
            · by_cases h2 : m0 = 0
              · left; simp [hN1', h1, h2]
              · right; right; simp [hN1', h1, h2]
            · right; left; simp [hN1', h1]
          have HHV := Lib.hid hV0
          clear hN1' hV0
          rcases hc with ⟨h1, h2, h3⟩ | ⟨h1, h3⟩ | ⟨h1, h2, h3⟩
          · have hb1 : ((n1 : Int) == 0) = true := by rw [h1]; rfl
            have hb2 : ((m0 : Int) == 0) = true := by rw [h2]; rfl
            clear h1 h2
            have hNI : (N1 : Int) = 1 := by omega
            go_wp2_with (go_at_call 27; refine (from_any _ _ _ _ _ _ HZL.out (by omega) (by omega) (HZ.out _ hbw3)).mono ?_; rintro e w' ⟨rfl, rfl⟩)
            go_loopw [6, 11] (fun p i w4 => ∃ m : Nat, m ≤ fillN N1 (q0 + m0) lim ∧ i = .int .i64 m ∧ p = .int .i64 ((q0 + m0 + m : Nat) : Int) ∧ ∃ v1, w4.heap[br]? = some (.cells #[.slice a0 m0 cap0, v1] 92) ∧ OwnInts w4 W3.heap.size v1 (fillR (q0 + m0) m) ∧ OwnInts w4 (br + 1) (.slice a0 m0 cap0) (fillR q0 m0) ∧ Below br W2 w4 ∧ W3.heap.size ≤ w4.heap.size) (fun _ i _ => N1 - (intOf i).toNat)
            case atStart => exact ⟨0, Nat.zero_le _, rfl, rfl, _, h3b, OwnInts.nil _ _, ho0, hb3, Nat.le_refl _⟩
            case round =>
              clear hb3 ho0 h3b hB3
              obtain ⟨m, hm, rfl, rfl, v1, h3b, ho1, ho0, hb3, hsz⟩ := hrel
              have hB3 := hb3.size
              rw [h2s] at hB3
              by_cases hml : m < fillN N1 (q0 + m0) lim
              · have hm1 : m < N1 ∧ q0 + m0 + m < lim := by unfold fillN at hml; omega
                obtain ⟨hm1, hm2⟩ := hm1
                haveI : IsBlk wr br #[.slice a0 m0 cap0, v1] 92 := ⟨h3b⟩
                have hfl : (fillR (q0 + m0) m).length ≤ 1000000 := by simp [fillR]; omega
                have hap := own_apart HHV.out ho1
                go_wp2_with (at_builtin; refine wpList_app_int rfl _ _ rfl W3.heap.size rfl (ho1.alloc _) (b := wr.heap.size) (y := ((q0 + m0 + m : Nat) : Int)) rfl (by simp) hfl (by simp; omega) ?_; intro v' w1 hown' hg; obtain ⟨a', n', cap', rfl⟩ := hown'.slice; haveI : IsBlk w1 br #[.slice a0 m0 cap0, v1] 92 := ⟨blk_grown h3b hg (ho1.ne (by omega))⟩)
                go_roundw
                case rel => exact ⟨m + 1, by omega, by go_num, by first | go_num | (congr 1; omega) | congr 1, _, (inferInstance : IsBlk (w1.setCell ⟨br, 1, none⟩ (.slice a' n' cap')) br (#[.slice a0 m0 cap0, v1].setIfInBounds 1 (.slice a' n' cap')) 92).out, by rw [fillR_succ]; exact hown'.drop (hown'.ne (by omega)), ((ho0.alloc _).kept hg hap).drop (ho0.ne (by omega)), (ho1.grown hb3 (by omega) (by omega) hg).setCell (p := ⟨br, 1, none⟩) (Nat.le_refl _) _, by have := hg.size; simp [World.setCell] at this ⊢; omega⟩
                case measure => simp [intOf]; omega
              · have hme : m = fillN N1 (q0 + m0) lim := by omega
                have hfin : OwnInts wr (br + 1) v1 (fillR (q0 + m0) m) := ho1.less (by omega)
                have HME := Lib.hid hme
                clear hm hml
                by_cases hmn : m < N1
                · have hm2 : lim ≤ q0 + m0 + m := by unfold fillN at hme; omega
                  clear hme
                  go_wp2
                  go_roundw
                  case rel => exact .inr (.inr ⟨rfl, m0, m, HM0.out, by rw [HN1.out]; exact HME.out, by first | (congr 1; omega) | congr 1, _, v1, h3b, ho0, hfin, hb3⟩)
                  case measure => simp [intOf]
                · clear hme
                  go_wp2
                  go_roundw
                  case rel => exact .inr (.inr ⟨rfl, m0, m, HM0.out, by rw [HN1.out]; exact HME.out, by first | (congr 1; omega) | congr 1, _, v1, h3b, ho0, hfin, hb3⟩)
                  case measure => simp [intOf]
          · have hb1 : ((n1 : Int) == 0) = false := beq_eq_false_iff_ne.2 (by omega)
            subst h3
            clear h1
            go_wp2_with (go_at_call 27; refine (from_any _ _ _ _ _ _ HZL.out (by omega) (by omega) (HZ.out _ hbw3)).mono ?_; rintro e w' ⟨rfl, rfl⟩)
            go_loopw [6, 11] (fun p i w4 => ∃ m : Nat, m ≤ fillN N1 (q0 + m0) lim ∧ i = .int .i64 m ∧ p = .int .i64 ((q0 + m0 + m : Nat) : Int) ∧ ∃ v1, w4.heap[br]? = some (.cells #[.slice a0 m0 cap0, v1] 92) ∧ OwnInts w4 W3.heap.size v1 (fillR (q0 + m0) m) ∧ OwnInts w4 (br + 1) (.slice a0 m0 cap0) (fillR q0 m0) ∧ Below br W2 w4 ∧ W3.heap.size ≤ w4.heap.size) (fun _ i _ => N1 - (intOf i).toNat)
            case atStart => exact ⟨0, Nat.zero_le _, rfl, rfl, _, h3b, OwnInts.nil _ _, ho0, hb3, Nat.le_refl _⟩
            case round =>
              clear hb3 ho0 h3b hB3
              obtain ⟨m, hm, rfl, rfl, v1, h3b, ho1, ho0, hb3, hsz⟩ := hrel
              have hB3 := hb3.size
              rw [h2s] at hB3
              by_cases hml : m < fillN N1 (q0 + m0) lim
              · have hm1 : m < N1 ∧ q0 + m0 + m < lim := by unfold fillN at hml; omega
                obtain ⟨hm1, hm2⟩ := hm1
                haveI : IsBlk wr br #[.slice a0 m0 cap0, v1] 92 := ⟨h3b⟩
                have hfl : (fillR (q0 + m0) m).length ≤ 1000000 := by simp [fillR]; omega
                have hap := own_apart HHV.out ho1
                go_wp2_with (at_builtin; refine wpList_app_int rfl _ _ rfl W3.heap.size rfl (ho1.alloc _) (b := wr.heap.size) (y := ((q0 + m0 + m : Nat) : Int)) rfl (by simp) hfl (by simp; omega) ?_; intro v' w1 hown' hg; obtain ⟨a', n', cap', rfl⟩ := hown'.slice; haveI : IsBlk w1 br #[.slice a0 m0 cap0, v1] 92 := ⟨blk_grown h3b hg (ho1.ne (by omega))⟩)
                go_roundw
                case rel => exact ⟨m + 1, by omega, by go_num, by first | go_num | (congr 1; omega) | congr 1, _, (inferInstance : IsBlk (w1.setCell ⟨br, 1, none⟩ (.slice a' n' cap')) br (#[.slice a0 m0 cap0, v1].setIfInBounds 1 (.slice a' n' cap')) 92).out, by rw [fillR_succ]; exact hown'.drop (hown'.ne (by omega)), ((ho0.alloc _).kept hg hap).drop (ho0.ne (by omega)), (ho1.grown hb3 (by omega) (by omega) hg).setCell (p := ⟨br, 1, none⟩) (Nat.le_refl _) _, by have := hg.size; simp [World.setCell] at this ⊢; omega⟩
                case measure => simp [intOf]; omega
              · have hme : m = fillN N1 (q0 + m0) lim := by omega
                have hfin : OwnInts wr (br + 1) v1 (fillR (q0 + m0) m) := ho1.less (by omega)
                have HME := Lib.hid hme
                clear hm hml
                by_cases hmn : m < N1
                · have hm2 : lim ≤ q0 + m0 + m := by unfold fillN at hme; omega
                  clear hme
                  go_wp2
                  go_roundw
                  case rel => exact .inr (.inr ⟨rfl, m0, m, HM0.out, by rw [HN1.out]; exact HME.out, by first | (congr 1; omega) | congr 1, _, v1, h3b, ho0, hfin, hb3⟩)
                  case measure => simp [intOf]
                · clear hme
                  go_wp2
                  go_roundw
                  case rel => exact .inr (.inr ⟨rfl, m0, m, HM0.out, by rw [HN1.out]; exact HME.out, by first | (congr 1; omega) | congr 1, _, v1, h3b, ho0, hfin, hb3⟩)
                  case measure => simp [intOf]
          · have hb1 : ((n1 : Int) == 0) = true := by rw [h1]; rfl
            have hb2 : ((m0 : Int) == 0) = false := beq_eq_false_iff_ne.2 (by omega)
            have h3' : N1 = n1 := by omega
            subst h3'
            clear h1 h3
            go_wp2_with (go_at_call 27; refine (from_any _ _ _ _ _ _ HZL.out (by omega) (by omega) (HZ.out _ hbw3)).mono ?_; rintro e w' ⟨rfl, rfl⟩)
            go_loopw [6, 11] (fun p i w4 => ∃ m : Nat, m ≤ fillN N1 (q0 + m0) lim ∧ i = .int .i64 m ∧ p = .int .i64 ((q0 + m0 + m : Nat) : Int) ∧ ∃ v1, w4.heap[br]? = some (.cells #[.slice a0 m0 cap0, v1] 92) ∧ OwnInts w4 W3.heap.size v1 (fillR (q0 + m0) m) ∧ OwnInts w4 (br + 1) (.slice a0 m0 cap0) (fillR q0 m0) ∧ Below br W2 w4 ∧ W3.heap.size ≤ w4.heap.size) (fun _ i _ => N1 - (intOf i).toNat)
            case atStart => exact ⟨0, Nat.zero_le _, rfl, rfl, _, h3b, OwnInts.nil _ _, ho0, hb3, Nat.le_refl _⟩
            case round =>
              clear hb3 ho0 h3b hB3
              obtain ⟨m, hm, rfl, rfl, v1, h3b, ho1, ho0, hb3, hsz⟩ := hrel
              have hB3 := hb3.size
              rw [h2s] at hB3
              by_cases hml : m < fillN N1 (q0 + m0) lim
              · have hm1 : m < N1 ∧ q0 + m0 + m < lim := by unfold fillN at hml; omega
                obtain ⟨hm1, hm2⟩ := hm1
                haveI : IsBlk wr br #[.slice a0 m0 cap0, v1] 92 := ⟨h3b⟩
                have hfl : (fillR (q0 + m0) m).length ≤ 1000000 := by simp [fillR]; omega
                have hap := own_apart HHV.out ho1
                go_wp2_with (at_builtin; refine wpList_app_int rfl _ _ rfl W3.heap.size rfl (ho1.alloc _) (b := wr.heap.size) (y := ((q0 + m0 + m : Nat) : Int)) rfl (by simp) hfl (by simp; omega) ?_; intro v' w1 hown' hg; obtain ⟨a', n', cap', rfl⟩ := hown'.slice; haveI : IsBlk w1 br #[.slice a0 m0 cap0, v1] 92 := ⟨blk_grown h3b hg (ho1.ne (by omega))⟩)
                go_roundw
                case rel => exact ⟨m + 1, by omega, by go_num, by first | go_num | (congr 1; omega) | congr 1, _, (inferInstance : IsBlk (w1.setCell ⟨br, 1, none⟩ (.slice a' n' cap')) br (#[.slice a0 m0 cap0, v1].setIfInBounds 1 (.slice a' n' cap')) 92).out, by rw [fillR_succ]; exact hown'.drop (hown'.ne (by omega)), ((ho0.alloc _).kept hg hap).drop (ho0.ne (by omega)), (ho1.grown hb3 (by omega) (by omega) hg).setCell (p := ⟨br, 1, none⟩) (Nat.le_refl _) _, by have := hg.size; simp [World.setCell] at this ⊢; omega⟩
                case measure => simp [intOf]; omega
              · have hme : m = fillN N1 (q0 + m0) lim := by omega
                have hfin : OwnInts wr (br + 1) v1 (fillR (q0 + m0) m) := ho1.less (by omega)
                have HME := Lib.hid hme
                clear hm hml
                by_cases hmn : m < N1
                · have hm2 : lim ≤ q0 + m0 + m := by unfold fillN at hme; omega
                  clear hme
                  go_wp2
                  go_roundw
                  case rel => exact .inr (.inr ⟨rfl, m0, m, HM0.out, by rw [HN1.out]; exact HME.out, by first | (congr 1; omega) | congr 1, _, v1, h3b, ho0, hfin, hb3⟩)
                  case measure => simp [intOf]
                · clear hme
                  go_wp2
                  go_roundw
                  case rel => exact .inr (.inr ⟨rfl, m0, m, HM0.out, by rw [HN1.out]; exact HME.out, by first | (congr 1; omega) | congr 1, _, v1, h3b, ho0, hfin, hb3⟩)
                  case measure => simp [intOf]
        · have hB3 := hb3.size
          rw [h2s] at hB3
          have h3t : wr.heap[bt]? = some (.cells (C.setIfInBounds 104 v) 32) := by rw [hb3.block _ (by omega)]; exact h2t
          obtain ⟨a0, l0, c0, rfl⟩ := ho0.slice
          obtain ⟨a1, l1, c1, rfl⟩ := ho1.slice
          haveI : IsBlk wr bt (C.setIfInBounds 104 v) 32 := ⟨h3t⟩
          haveI : IsBlk wr br #[.slice a0 l0 c0, .slice a1 l1 c1] 92 := ⟨h3b⟩
          have tv : (C.setIfInBounds 104 v)[104]? = some v := by simp [HSZ.out]
          have hlen : hs.length ≤ 1000000 := by rw [HPR.out.1, (HG.out n hn).2]; omega
          have hb13 : Below W1.heap.size W1 wr := by rw [HBR.out]; exact HB2.out.trans hb3
          have h3o : OwnK 92 2 prC wr w.heap.size v hs := OwnK.below (C := prC) HOW.out hb13
          have h3p : PairsOf wr w.heap.size hs (rowsGo zs k n).2 := HPR.out.below hb13
          have hbwr : Below bt w wr := hbw2.trans (hb3.mono (by omega))
          have HRG : Hid ((rowsGo zs k (n + 1)) = (q0 + m0 + m1, (rowsGo zs k n).2 ++ [(fillR q0 m0, fillR (q0 + m0) m1)])) := Lib.hid (by
            simp only [rowsGo, HQ.out, HLM.out]
            rw [hm1, hm0, ← hn0])
          clear hm0 hm1
          go_wp2
          (refine wp_region_noPanic ?_; refine wp_region_envF [0] [1, 2, 3, 4, 5, 6] [7, 8, 9, 10] [6] [] noRc (by kernel_rfl) (by kernel_rfl) (fun _ _ _ _ _ h => (h : False).elim) noRc_stable ?_; simp only [pickO, List.filterMap_cons, List.filterMap_nil, List.getElem?_cons_succ, List.getElem?_cons_zero]; (repeat (first | (refine wpAddr_move rfl rfl rfl ?_; simp only [Act.put, List.setIfInBounds_toArray, List.set_cons_succ, List.set_cons_zero]) | (refine ⟨_, Or.inl ⟨rfl, fun w => ?_⟩, ?_⟩; (focus (simp [go_sem]; rfl))))); refine wpAddr_nil ?_; (try simp only [Act.put, List.setIfInBounds_toArray, List.set_cons_succ, List.set_cons_zero]))
          (repeat (first | (refine wpEH_skip rfl rfl ?_; simp only [Act.put, List.setIfInBounds_toArray, List.set_cons_succ, List.set_cons_zero]) | (refine wpEH_want rfl rfl ?_; intro Z hZs hZi hZn K hK; (first | (go_big_quiet_op; (first | go_big_quiet_on | go_big_quiet_call ((first | fail))))); clear hZs hZi hZn Z)))
          (refine wpEH_build 1 (.cells #[.slice a0 l0 c0, .slice a1 l1 c1] 92) rfl rfl (fun w => (by simp [go_sem] <;> rfl)) ?_; intro q6 p6 hq6 hp6; simp only [Act.put, List.setIfInBounds_toArray, List.set_cons_succ, List.set_cons_zero])
          (refine wpEH_nil ?_; intro u hinv; have hO6 := (hp6 _ (hinv 6 _ rfl)).out; have lO6 := laid_le hO6; clear hinv; clear hp6 p6; go_simp)
          have o3 : OwnK 92 2 prC u.w w.heap.size v hs := h3o.up u
          have hv3 : v.ownBlock ≠ some bt := o3.ne (by have := HBT.out; omega)
          have hty : 92 ≠ 3 := by decide
          have p3 : PairsOf u.w w.heap.size hs (rowsGo zs k n).2 := h3p.below u.bel
          have r0 : OwnInts u.w w.heap.size (.slice a0 l0 c0) (fillR q0 m0) := (ho0.less (by omega)).below u.bel
          have r1 : OwnInts u.w w.heap.size (.slice a1 l1 c1) (fillR (q0 + m0) m1) := (ho1.less (by omega)).below u.bel
          have hbu : Below bt w u.w := hbwr.trans (u.bel.mono (by omega))
          have hut : u.w.heap[bt]? = some (.cells (C.setIfInBounds 104 v) 32) := by rw [u.bel.block _ (by omega)]; exact h3t
          have hsu := u.bel.size
          refine wpList_app_own prC_len 48 _ 26 Try.underlying26 info_pair rfl (by decide) (by decide) rfl _ _ rfl w.heap.size rfl o3 (b := q6) ((.slice a0 l0 c0, .slice a1 l1 c1) : Value × Value) (by simp [prC, Value.oneCell']) rfl (fun j x hj => laid_cell hO6 j (by simpa [prC] using hj)) hlen (by omega) ?_
          intro v' w1 hown' hg
          obtain ⟨a', n', cap', rfl⟩ := hown'.slice
          have hb1 : w1.heap[bt]? = some (.cells (C.setIfInBounds 104 v) 32) := by rw [hg.block bt (by omega) (fun e => hv3 e.symm)]; exact hut
          haveI : IsBlk w1 bt (C.setIfInBounds 104 v) 32 := ⟨hb1⟩
          go_wp2
          refine NoPanic.normal ?_
          have hv' : (Value.slice a' n' cap').ownBlock ≠ some bt := hown'.ne (by have := HBT.out; omega)
          have p4 : PairsOf w1 w.heap.size hs (rowsGo zs k n).2 := p3.kept hg fun _ _ h => own_ne hty o3 h
          have p5 : PairsOf w1 w.heap.size (hs ++ [(.slice a0 l0 c0, .slice a1 l1 c1)]) (rowsGo zs k (n + 1)).2 := by
            rw [HRG.out]; exact p4.snoc (r0.kept hg (own_ne hty o3 r0)) (r1.kept hg (own_ne hty o3 r1))
          have hb2 : Below bt w w1 := o3.grown0 hbu (by omega) (by have := HBT.out; omega) hg
          have HP5 := Lib.hid p5
          have HO5 := Lib.hid hown'
          have HB5 := Lib.hid hb2
          clear p3 p4 p5 r0 r1 hg hown' hb2 hbu hut
          go_wp2
          go_roundw
          case rel => exact ⟨n + 1, by omega, by go_num, by rw [HRG.out]; first | go_num | (congr 1; omega) | congr 1, ⟨.slice a' n' cap', _, by (have := (inferInstance : IsBlk (w1.setCell ⟨bt, 104, none⟩ (.slice a' n' cap')) bt ((C.setIfInBounds 104 v).setIfInBounds 104 (.slice a' n' cap')) 32).out; simpa using this), OwnK.kept (C := prC) HO5.out (grownBy_set w1 bt 104 (.slice a' n' cap')) (.inr hv'), HP5.out.kept (grownBy_set w1 bt 104 (.slice a' n' cap')) fun v xs h => .inr (h.ne (by have := HBT.out; omega))⟩, HB5.out.setCell (p := ⟨bt, 104, none⟩) (Nat.le_refl _) _⟩
          case measure => simp [intOf]; omega
    · obtain rfl : n = k := by omega
      have HX : Hid (RowsEnd w wr bt C (rowsGo zs n n).2) := Lib.hid ⟨⟨v, hs, hbk, hown, hpr⟩, hb⟩
      clear hbk hown hpr
      go_wp2
      go_ret
      exact ⟨rfl, HX.out⟩
end Go.Proofs.Ytbnbakienajhmaa
