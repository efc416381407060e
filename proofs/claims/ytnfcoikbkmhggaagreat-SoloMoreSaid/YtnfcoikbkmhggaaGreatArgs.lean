/- Reading the arguments: what the given statement says of them, as what can be read. -/
import Derived.Test.YtnfcoikbkmhggaaGreatRunL
import Derived.Deep.Slices
import Derived.ChangeSame
import Derived.Carry
set_option linter.all false
set_option linter.unusedVariables false
set_option linter.unusedSimpArgs false
namespace Go.BL
open Go.ChangeShapes Go.WideShapes Go.RowKit Go.Deep
/-- The memory that a world holds. -/
def memH (W : World) : Hp := fun b => W.heap[b]?
theorem memH_fits (W : World) : Fits (memH W) Hp.emp W := ⟨(fun b o e => by cases e), fun b o e => e, fun n => .inr rfl⟩
variable {H : Type} {enc : TypeId × Value → H} {P : Program} {W : World} {sp : Nat → Bool} {hd : Bool}

theorem addr_add_add (a : Addr) (n m : Nat) : (a.add n).add m = a.add (n + m) := by
  unfold Addr.add
  by_cases hn : n = 0
  · subst hn; simp
  · by_cases hm : m = 0
    · subst hm; simp
    · rw [if_neg hn, if_neg hm, if_neg (by omega)]
      simp [Nat.add_assoc]
theorem take_flat {α : Type} (l : List α) (f : Nat → List α) (K : Nat) : ∀ (n off : Nat), (∀ i, i < n → (l.drop (off + i * K)).take K = f i) → (l.drop off).take (n * K) = (List.range n).flatMap f
  | 0, off, h => by simp
  | n + 1, off, h => by
    rw [Nat.add_mul, Nat.one_mul, List.take_add, take_flat l f K n off fun i hi => h i (by omega), List.range_succ, List.flatMap_append, List.drop_drop, h n (by omega)]
    simp
theorem flat_length {α : Type} (f : Nat → List α) (K : Nat) : ∀ n, (∀ i, i < n → (f i).length = K) → ((List.range n).flatMap f).length = n * K
  | 0, _ => by simp
  | n + 1, h => by
    rw [List.range_succ, List.flatMap_append, List.length_append, flat_length f K n fun i hi => h i (by omega), Nat.add_mul]
    simp [h n (by omega)]
/-- The cells of a slice's elements, one behind the other, can be read. -/
theorem rdSl_of_cells {a : Addr} {n K : Nat} {f : Nat → List Value} (hK : 0 < K) (h : ∀ i, i < n → W.cells? 0 (a.add (i * K)) K = some (f i)) : RdSl (memH W) K (some a) n ((List.range n).flatMap f) := by
  have hlen := flat_length f K n fun i hi => (World.cells?_some (h i hi)).2.1
  intro hh
  refine ⟨hlen, ?_⟩
  by_cases hn : n = 0
  · exact .inl hn
  · right
    have hc : ∀ i, i < n → ∀ j, j < K → W.cell? (a.add (i * K + j)) = (f i)[j]? := fun i hi j hj => by
      have := (World.cells?_some (h i hi)).2.2 j hj
      rw [← this]
      rw [addr_add_add]
    have hfl : ∀ i, i < n → (f i).length = K := fun i hi => (World.cells?_some (h i hi)).2.1
    have h0 := hc 0 (by omega) 0 hK
    have h0' : (f 0)[0]? = some ((f 0)[0]'(by rw [hfl 0 (by omega)]; exact hK)) := List.getElem?_eq_getElem _
    rw [h0', Nat.zero_mul, Nat.add_zero] at h0
    have ha0 : a.add 0 = a := by unfold Addr.add; split <;> simp_all
    rw [ha0] at h0
    unfold World.cell? at h0
    cases hb : W.heap[a.block]? with
    | none => simp [hb] at h0
    | some o =>
      cases o <;> simp only [hb] at h0 <;> try (cases h0; done)
      rename_i cs T fr
      have hs : a.spot = none := by
        cases e : a.spot with
        | none => rfl
        | some q => rw [e] at h0; simp at h0
      obtain ⟨b, off, spot⟩ := a
      simp only at hs hb
      subst hs
      have hcell : ∀ i, i < n → ∀ j, j < K → cs[off + (i * K + j)]? = (f i)[j]? := fun i hi j hj => by
        have := hc i hi j hj
        rw [addr_add] at this
        simpa [World.cell?, hb] using this
      have hle : off + n * K ≤ cs.size := by
        have h1 := hcell (n - 1) (by omega) (K - 1) (by omega)
        have h2 : (f (n - 1))[K - 1]? ≠ none := by
          have := hfl (n - 1) (by omega)
          simp; omega
        rw [← h1] at h2
        have h3 : off + ((n - 1) * K + (K - 1)) < cs.size := by
          apply Nat.lt_of_not_le
          intro q
          exact h2 (Array.getElem?_eq_none q)
        obtain ⟨m, rfl⟩ : ∃ m, n = m + 1 := ⟨n - 1, by omega⟩
        rw [Nat.add_mul]
        simp only [Nat.add_sub_cancel] at h3
        omega
      refine ⟨b, off, T, fr, cs, rfl, .inr hb, hle, ?_⟩
      apply Array.toList_inj.1
      rw [Array.toList_extract, List.extract_eq_take_drop]
      rw [show off + n * K - off = n * K by omega]
      refine take_flat cs.toList f K n off fun i hi => ?_
      apply List.ext_getElem?
      intro j
      rw [List.getElem?_take]
      by_cases hj : j < K
      · rw [if_pos hj, List.getElem?_drop]
        have := hcell i hi j hj
        rw [← this, Array.getElem?_toList, Nat.add_assoc]
      · rw [if_neg hj]
        have := hfl i hi
        exact (List.getElem?_eq_none (by omega)).symm
theorem rdSl_nil {F : Hp} {K : Nat} : RdSl F K none 0 [] := fun _ => ⟨by simp, .inl rfl⟩
/-- A slice, its elements read one by one. -/
theorem open_sl {t e : TypeId} {K fuel : Nat} {cs : List Value} {x : DataW H × List MemPlace} (ht : P.underlying t = some (.slice e)) (hK : P.cellsOf e = K) (hp : 0 < K) (h : DataW.trod enc P W 0 sp hd fuel t cs = some x) :
    ∃ (a : Option Addr) (n c : Nat) (f : Nat → List Value), cs = [.slice a n c] ∧ RdSl (memH W) K a n ((List.range n).flatMap f) ∧ (∀ i, i < n → (f i).length = K) ∧ ∀ i, i < n → ∃ fuel y, DataW.trod enc P W 0 sp hd fuel e (f i) = some y := by
  rcases open_slice ht h with ⟨rfl, _⟩ | ⟨a, len, cap, m, n, D, Pl, rfl, hb, hlc, hcm, hm, _, hall⟩
  · exact ⟨none, 0, 0, fun _ => [], rfl, rdSl_nil, fun i hi => by omega, fun i hi => by omega⟩
  · have hlm : len ≤ m := by rw [hm]; split <;> omega
    rw [hK] at hall
    have hall' : ∀ i, ∃ cs', i < len → W.cells? 0 (a.add (i * K)) K = some cs' ∧ DataW.trod enc P W 0 sp hd n e cs' = some (D i, Pl i) := fun i => by
      by_cases hi : i < len
      · obtain ⟨cs', h1, h2⟩ := hall i (by omega)
        exact ⟨cs', fun _ => ⟨h1, h2⟩⟩
      · exact ⟨[], fun h => absurd h hi⟩
    refine ⟨some a, len, cap, fun i => (hall' i).choose, rfl, rdSl_of_cells hp fun i hi => ((hall' i).choose_spec hi).1, fun i hi => (World.cells?_some ((hall' i).choose_spec hi).1).2.1, fun i hi => ⟨n, _, ((hall' i).choose_spec hi).2⟩⟩
def IntOk (n : Int) : Prop := -9223372036854775808 ≤ n ∧ n ≤ 9223372036854775807
theorem intOk_of_wf {n : Int} (h : (Lit.int .i64 n).wf = true) : IntOk n := by
  simp [Lit.wf, IntKind.min, IntKind.max, IntKind.signed, IntKind.bits] at h
  exact ⟨by omega, by omega⟩
theorem flat_single (n : Nat) (g : Nat → Value) : (List.range n).flatMap (fun i => [g i]) = (List.range n).map g := by
  induction n with
  | zero => rfl
  | succ n ih => simp [List.range_succ, ih]
end Go.BL
namespace Go.BL
theorem list_of {α : Type} (Q : Nat → α → Prop) : ∀ n, (∀ i, i < n → ∃ x, Q i x) → ∃ xs : List α, xs.length = n ∧ ∀ i x, xs[i]? = some x → Q i x
  | 0, _ => ⟨[], rfl, fun i x h => by simp at h⟩
  | n + 1, h => by
    obtain ⟨xs, hl, hq⟩ := list_of Q n fun i hi => h i (by omega)
    obtain ⟨y, hy⟩ := h n (by omega)
    refine ⟨xs ++ [y], by simp [hl], fun i x hx => ?_⟩
    by_cases hi : i < n
    · rw [List.getElem?_append_left (by omega)] at hx; exact hq i x hx
    · have hlt := (List.getElem?_eq_some_iff.1 hx).1
      simp only [List.length_append, List.length_cons, List.length_nil] at hlt
      have : i = n := by omega
      subst this
      rw [List.getElem?_append_right (by omega), hl] at hx
      simp at hx; subst hx; exact hy
theorem flat_of {α : Type} {xs : List α} {f : Nat → List Value} {e : α → List Value} (h : ∀ i x, xs[i]? = some x → f i = e x) : (List.range xs.length).flatMap f = (xs.map e).flatten := by
  have key : ∀ k, k ≤ xs.length → (List.range k).flatMap f = ((xs.take k).map e).flatten := by
    intro k
    induction k with
    | zero => intro _; simp
    | succ k ih =>
      intro hk
      obtain ⟨x, hx⟩ : ∃ x, xs[k]? = some x := ⟨_, List.getElem?_eq_getElem (by omega)⟩
      rw [List.range_succ, List.flatMap_append, ih (by omega), List.take_add_one, hx, List.map_append, List.flatten_append]
      simp [h k x hx]
  have := key xs.length (Nat.le_refl _)
  rwa [List.take_length] at this
end Go.BL
