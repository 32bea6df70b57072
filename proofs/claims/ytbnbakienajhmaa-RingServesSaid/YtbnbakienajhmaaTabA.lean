/- A table as it is read out of memory; the contract of the reference's Spots. -/
import Derived.Test.YtbnbakienajhmaaTel
import Derived.Test.YtbnbakienajhmaaRk
namespace Go.Proofs.Ytbnbakienajhmaa
open Go.RowKit
set_option linter.unusedVariables false

def rowOf (gr : List (List Int × List Int)) (i j : Nat) : List Int := match gr[i]? with | some x => if j = 0 then x.1 else x.2 | none => []
def cellK {α : Type} (C : α → List Value) (xs : List α) (i j : Nat) : Value := (xs[i]?.bind fun x => (C x)[j]?).getD undef
/-- The four slices of a table, as they lie in memory. -/
structure TabIn (w : World) (t : Tab) (g d r b : Value) : Prop where
  gr : ∃ a cap, ∃ H : Nat → Nat → Option Addr × Nat, g = .slice a t.gr.length cap ∧ RowK w a 2 t.gr.length (fun i j => .slice (H i j).1 (rowOf t.gr i j).length (H i j).2) ∧ ∀ i, i < t.gr.length → ∀ j, j < 2 → Ints w (H i j).1 (rowOf t.gr i j)
  de : ∃ a cap, d = .slice a t.de.length cap ∧ RowK w a 7 t.de.length (cellK detC t.de)
  ra : ∃ a cap, r = .slice a t.ra.length cap ∧ RowK w a 11 t.ra.length (cellK rlC t.ra)
  bu : ∃ a cap, b = .slice a t.bu.length cap ∧ RowK w a 2 t.bu.length (cellK busC t.bu)
  lg : t.gr.length ≤ 8
  lr : ∀ i j, (rowOf t.gr i j).length ≤ 8
  ld : t.de.length ≤ 64
  la : t.ra.length ≤ 64
  lb : t.bu.length ≤ 64
theorem TabIn.below {B : Nat} {w w' : World} {t : Tab} {g d r b : Value} (h : TabIn w t g d r b) (hb : Below B w w') (hB : w.heap.size ≤ B) : TabIn w' t g d r b := by
  obtain ⟨⟨a1, c1, H, e1, r1, i1⟩, ⟨a2, c2, e2, r2⟩, ⟨a3, c3, e3, r3⟩, ⟨a4, c4, e4, r4⟩, h1, h2, h3, h4, h5⟩ := h
  exact ⟨⟨a1, c1, H, e1, r1.below hb hB, fun i hi j hj => Row1.below (i1 i hi j hj) hb hB⟩, ⟨a2, c2, e2, r2.below hb hB⟩, ⟨a3, c3, e3, r3.below hb hB⟩, ⟨a4, c4, e4, r4.below hb hB⟩, h1, h2, h3, h4, h5⟩
/-- The array of cells T is the table t, in the world w. -/
def IsTab (w : World) (T : Array Value) (t : Tab) : Prop := ∃ g d r b, T = arrF 131 (tabAt t g d r b) ∧ TabIn w t g d r b
theorem IsTab.below {B : Nat} {w w' : World} {T : Array Value} {t : Tab} (h : IsTab w T t) (hb : Below B w w') (hB : w.heap.size ≤ B) : IsTab w' T t := by
  obtain ⟨g, d, r, b, e, h⟩ := h
  exact ⟨g, d, r, b, e, h.below hb hB⟩
theorem IsTab.size {w : World} {T : Array Value} {t : Tab} (h : IsTab w T t) : T.size = 131 := by
  obtain ⟨g, d, r, b, rfl, _⟩ := h; exact arrF_size _ _
theorem IsTab.get {w : World} {T : Array Value} {t : Tab} {g d r b : Value} (h : T = arrF 131 (tabAt t g d r b)) (i : Nat) (hi : i < 131) (v : Value) (hv : tabAt t g d r b i = v) : T[i]? = some v := by
  rw [h, arrF_get _ _ _ hi, hv]
theorem IsTab.ph {w : World} {T : Array Value} {t : Tab} (h : IsTab w T t) (p j : Nat) (hp : p < 8) (hj : j < 13) : T[13 * p + j]? = some ((phC (t.ph p)).getD j undef) := by
  obtain ⟨g, d, r, b, rfl, _⟩ := h
  rw [arrF_get _ _ _ (by omega), tabAt_ph _ _ _ _ _ _ _ hp hj]
theorem IsTab.phx {w : World} {T : Array Value} {t : Tab} (h : IsTab w T t) (p j : Nat) (v : Value) (hp : p < 8) (hj : j < 13) (hv : (phC (t.ph p)).getD j undef = v) : T[p * 13 + j]? = some v := by
  rw [Nat.mul_comm, h.ph p j hp hj, hv]
theorem IsTab.cf {w : World} {T : Array Value} {t : Tab} (h : IsTab w T t) (p : Nat) (hp : p < 8) : T[105 + p]? = some (.int .i64 (t.cf p)) := by
  obtain ⟨g, d, r, b, rfl, _⟩ := h
  rw [arrF_get _ _ _ (by omega), tabAt_cf _ _ _ _ _ _ hp]
theorem IsTab.fl {w : World} {T : Array Value} {t : Tab} (h : IsTab w T t) (p : Nat) (hp : p < 8) : T[121 + p]? = some (.int .i64 (t.fl p)) := by
  obtain ⟨g, d, r, b, rfl, _⟩ := h
  rw [arrF_get _ _ _ (by omega), tabAt_fl _ _ _ _ _ _ hp]
theorem info_tab : (Try.prog.info? 32).map (·.size) = some 131 := by kernel_rfl

/-! ### Spots -/
structure Spot where
  g : Nat
  k : Nat
  i : Nat
  p : Int
def spotC (s : Spot) : List Value := [.int .i64 s.g, .int .i64 s.k, .int .i64 s.i, .int .i64 s.p]
def okP (p : Int) : Bool := decide (0 ≤ p) && decide (p < 8)
def spI (r : List Int) (g k n : Nat) : List Spot := (List.range n).filterMap fun i => if okP (r.getD i 0) then some ⟨g, k, i, r.getD i 0⟩ else none
def spK (gr : List (List Int × List Int)) (g n : Nat) : List Spot := (List.range n).flatMap fun k => spI (rowOf gr g k) g k (rowOf gr g k).length
def spG (gr : List (List Int × List Int)) (n : Nat) : List Spot := (List.range n).flatMap fun g => spK gr g 2
def spotsM (gr : List (List Int × List Int)) : List Spot := spG gr gr.length
theorem spI_succ (r : List Int) (g k n : Nat) : spI r g k (n + 1) = spI r g k n ++ (if okP (r.getD n 0) then [⟨g, k, n, r.getD n 0⟩] else []) := by
  unfold spI
  rw [List.range_succ, List.filterMap_append]
  cases h : okP (r.getD n 0)
  all_goals
    rw [List.getD_eq_getElem?_getD] at h
    simp [h]
theorem spK_succ (gr : List (List Int × List Int)) (g n : Nat) : spK gr g (n + 1) = spK gr g n ++ spI (rowOf gr g n) g n (rowOf gr g n).length := by
  unfold spK; rw [List.range_succ, List.flatMap_append]; simp
theorem spG_succ (gr : List (List Int × List Int)) (n : Nat) : spG gr (n + 1) = spG gr n ++ spK gr n 2 := by
  unfold spG; rw [List.range_succ, List.flatMap_append]; simp
theorem spI_length (r : List Int) (g k n : Nat) : (spI r g k n).length ≤ n := by
  unfold spI; have := List.length_filterMap_le (fun i => if okP (r.getD i 0) then some (⟨g, k, i, r.getD i 0⟩ : Spot) else none) (List.range n); simpa using this
theorem spK_length {gr : List (List Int × List Int)} (h : ∀ i j, (rowOf gr i j).length ≤ 8) (g : Nat) : ∀ n, (spK gr g n).length ≤ 8 * n
  | 0 => by simp [spK]
  | n + 1 => by rw [spK_succ, List.length_append]; have := spK_length h g n; have := spI_length (rowOf gr g n) g n (rowOf gr g n).length; have := h g n; omega
theorem spG_length {gr : List (List Int × List Int)} (h : ∀ i j, (rowOf gr i j).length ≤ 8) : ∀ n, (spG gr n).length ≤ 16 * n
  | 0 => by simp [spG]
  | n + 1 => by rw [spG_succ, List.length_append]; have := spG_length h n; have := spK_length h n 2; omega
theorem info_spot : (Try.prog.info? 87).map (fun i => (i.zero, i.size, i.bytes)) = some (some (.agg #[.int .i64 0, .int .i64 0, .int .i64 0, .int .i64 0]), 4, 32) := by kernel_rfl
def OwnSpots (w : World) (base : Nat) (v : Value) (xs : List Spot) : Prop := OwnK 87 4 spotC w base v xs
theorem spotC_len (x : Spot) : (spotC x).length = 4 := rfl
theorem spotC_one (x : Spot) : ∀ u ∈ spotC x, u.oneCell' = true := by simp [spotC, Value.oneCell']
attribute [local go_sem] IsBlk.cell
set_option maxHeartbeats 8000000 in
set_option maxRecDepth 100000 in
theorem spots_any (T : Array Value) (t : Tab) (w : World) (hT : IsTab w T t) :
    Calls Try.prog 60 #[.agg T] w fun e w' => ∃ v, e = .returned v ∧ OwnSpots w' w.heap.size v (spotsM t.gr) ∧ Below w.heap.size w w' := by
  obtain ⟨g, d, r, b, hTe, hI⟩ := hT
  obtain ⟨ga, gcap, H, rfl, hrow, hints⟩ := hI.gr
  have lg := hI.lg
  have lr := Lib.hid hI.lr
  have t104 : T[104]? = some (.slice ga t.gr.length gcap) := by rw [hTe, arrF_get _ _ _ (by omega)]; rfl
  have HR := Lib.hid hrow
  have HI := Lib.hid hints
  clear hrow hints hI hTe
  go_enter Try.func60, Try.ntmps60
  go_wp2
  go_loopw [3, 4] (fun l i wr => ∃ n : Nat, n ≤ t.gr.length ∧ i = .int .i64 n ∧ OwnSpots wr (w.heap.size + 1) l (spG t.gr n) ∧ Below (w.heap.size + 1) (w.alloc (.cells T 32)) wr) (fun _ i _ => t.gr.length - (intOf i).toNat)
  case atStart => exact ⟨0, Nat.zero_le _, rfl, OwnK.nil _ _, Below.refl _ _⟩
  case round =>
    obtain ⟨n, hn, rfl, hown, hb⟩ := hrel
    have hB := hb.size
    rw [World.size_alloc] at hB
    have iB : IsBlk wr w.heap.size T 32 := ⟨by rw [hb.block _ (by omega)]; exact heap_alloc_here _ _⟩
    by_cases hlt : n < t.gr.length
    · obtain ⟨gb, goff, rfl, hgb, hgc⟩ := HR.out.resolve_left (by omega)
      have HC : Hid (∀ j, j < 2 → w.cell? ⟨gb, goff + n * 2 + j, none⟩ = some (.slice (H n j).1 (rowOf t.gr n j).length (H n j).2)) := Lib.hid fun j hj => hgc n hlt j hj
      clear hgc HR
      go_wp2
      go_loopw [3, 5] (fun l i wr => ∃ k : Nat, k ≤ 2 ∧ i = .int .i64 k ∧ OwnSpots wr (w.heap.size + 1) l (spG t.gr n ++ spK t.gr n k) ∧ Below (w.heap.size + 1) (w.alloc (.cells T 32)) wr) (fun _ i _ => 2 - (intOf i).toNat)
      case atStart => exact ⟨0, by omega, rfl, by simpa [spK] using hown, hb⟩
      case round =>
        clear hown hb hB iB
        obtain ⟨k, hk, rfl, hown, hb⟩ := hrel
        have hB := hb.size
        rw [World.size_alloc] at hB
        have iB : IsBlk wr w.heap.size T 32 := ⟨by rw [hb.block _ (by omega)]; exact heap_alloc_here _ _⟩
        by_cases hltk : k < 2
        · have hkI : (k : Int) < 2 := by omega
          have hck : wr.cell? ⟨gb, goff + n * 2 + k, none⟩ = some (.slice (H n k).1 (rowOf t.gr n k).length (H n k).2) := by
            rw [hb.cell (p := ⟨gb, goff + n * 2 + k, none⟩) (by simp; omega), World.cell?_alloc_past _ _ _ (by omega)]; exact HC.out k hltk
          obtain ⟨hd, hhd⟩ : ∃ x, (H n k).1 = x := ⟨_, rfl⟩
          obtain ⟨hcp, hhc⟩ : ∃ x, (H n k).2 = x := ⟨_, rfl⟩
          obtain ⟨row, hrw⟩ : ∃ x, rowOf t.gr n k = x := ⟨_, rfl⟩
          have hin : Ints w hd row := by rw [← hhd, ← hrw]; exact HI.out n hlt k hltk
          have hrl : row.length ≤ 8 := by rw [← hrw]; exact lr.out n k
          rw [hhd, hhc, hrw] at hck
          have HRW := Lib.hid hrw
          have HC : Hid (w.cell? ⟨gb, goff + n * 2 + k, none⟩ = some (.slice hd row.length hcp)) := Lib.hid (by rw [← hhd, ← hhc, ← hrw]; exact HC.out k hltk)
          clear hhd hhc hrw
          go_wp2
          go_loopw [3, 6] (fun l i wr => ∃ j : Nat, j ≤ row.length ∧ i = .int .i64 j ∧ OwnSpots wr (w.heap.size + 1) l (spG t.gr n ++ spK t.gr n k ++ spI row n k j) ∧ Below (w.heap.size + 1) (w.alloc (.cells T 32)) wr) (fun _ i _ => row.length - (intOf i).toNat)
          case atStart => exact ⟨0, by omega, rfl, by simpa [spI] using hown, hb⟩
          case round =>
            clear hown hb hB iB hck
            obtain ⟨j, hj, rfl, hown, hb⟩ := hrel
            have hB := hb.size
            rw [World.size_alloc] at hB
            have iB : IsBlk wr w.heap.size T 32 := ⟨by rw [hb.block _ (by omega)]; exact heap_alloc_here _ _⟩
            have hck : wr.cell? ⟨gb, goff + n * 2 + k, none⟩ = some (.slice hd row.length hcp) := by
              rw [hb.cell (p := ⟨gb, goff + n * 2 + k, none⟩) (by simp; omega), World.cell?_alloc_past _ _ _ (by omega)]; exact HC.out
            by_cases hjl : j < row.length
            · obtain ⟨rb, roff, rfl, hrb, hrc⟩ := hin.cell (by omega)
              have hcell : wr.cell? ⟨rb, roff + j, none⟩ = some (.int .i64 (row.getD j 0)) := by
                rw [hb.cell (p := ⟨rb, roff + j, none⟩) (by simp; omega), World.cell?_alloc_past _ _ _ (by omega)]; exact hrc j hjl
              have HS := Lib.hid (spI_succ row n k j)
              have hlen : (spG t.gr n ++ spK t.gr n k ++ spI row n k j).length ≤ 1000000 := by
                have h1 := spG_length lr.out n
                have h2 := spK_length lr.out n k
                have h3 := spI_length row n k j
                simp only [List.length_append]; omega
              clear hrc
              generalize row.getD j 0 = x at *
              cases hp : okP x
              · have HS2 : Hid (spI row n k (j + 1) = spI row n k j) := Lib.hid (by rw [HS.out, hp]; simp)
                clear HS
                by_cases h0 : 0 ≤ x
                · have h8 : ¬ x < 8 := by unfold okP at hp; simp at hp; omega
                  clear hp
                  go_wp2
                  go_roundw
                  case rel => exact ⟨j + 1, by omega, by go_num, by rw [HS2.out]; exact hown, hb⟩
                  case measure => simp [intOf]; omega
                · clear hp
                  go_wp2
                  go_roundw
                  case rel => exact ⟨j + 1, by omega, by go_num, by rw [HS2.out]; exact hown, hb⟩
                  case measure => simp [intOf]; omega
              · have h0 : 0 ≤ x := by unfold okP at hp; simp at hp; omega
                have h8 : x < 8 := by unfold okP at hp; simp at hp; omega
                have HS2 : Hid (spI row n k (j + 1) = spI row n k j ++ [⟨n, k, j, x⟩]) := Lib.hid (by rw [HS.out, hp]; simp)
                clear HS hp
                go_wp2_with (at_builtin; refine wpList_app_own spotC_len 32 _ 117 Try.underlying117 info_spot rfl (by omega) (by omega) rfl _ _ rfl (w.heap.size + 1) rfl (hown.alloc _) (b := wr.heap.size) (⟨n, k, j, x⟩ : Spot) (spotC_one _) rfl (cells_new _ _) hlen (by simp; omega) ?_; intro v' w1 hown' hg)
                go_roundw
                case rel => exact ⟨j + 1, by omega, by go_num, by rw [HS2.out, ← List.append_assoc]; exact hown', hown.grown hb hB (Nat.le_refl _) hg⟩
                case measure => simp [intOf]; omega
            · obtain rfl : j = row.length := by omega
              go_wp2
              go_roundw
              case rel => exact ⟨k + 1, by omega, by go_num, by rw [spK_succ, HRW.out, ← List.append_assoc]; exact hown, hb⟩
              case measure => simp [intOf]; omega
        · obtain rfl : k = 2 := by omega
          go_wp2
          go_roundw
          case rel => exact ⟨n + 1, by omega, by go_num, by rw [spG_succ]; exact hown, hb⟩
          case measure => simp [intOf]; omega
    · obtain rfl : n = t.gr.length := by omega
      go_wp2
      go_ret
      exact ⟨_, rfl, OwnK.less hown (by omega), by have hb0 := (Below.refl w.heap.size w).alloc (Nat.le_refl _) (.cells T 32); exact hb0.trans (hb.mono (by omega))⟩
end Go.Proofs.Ytbnbakienajhmaa
