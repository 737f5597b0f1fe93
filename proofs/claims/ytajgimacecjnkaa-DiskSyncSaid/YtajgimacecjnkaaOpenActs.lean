/- A slice of acts that came in. -/
import Derived.Test.YtajgimacecjnkaaPDiskRoomx0
import Derived.Deep.Slices
import Derived.ChangeSlices
set_option linter.unusedSimpArgs false
set_option linter.unusedVariables false
namespace Go.Proofs.Ytajgimacecjnkaa
open Go.RowKit Go.Lib Go.Proofs.YtajgimacecjnkaaW.PrintWords Go.Proofs.Ytajgimacecjnkaa.PDiskRoom Go.ChangeShapes Go.WideShapes

section
variable {H : Type} {enc : TypeId × Value → H} {w : World} {base : Nat} {spare : Nat → Bool} {held : Bool}
theorem slice_reads {t e : TypeId} {k : IntKind} {fuel : Nat} {v : Value} {x : DataW H × List MemPlace} (ht : Try.prog.underlying t = some (.slice e)) (he : Try.prog.underlying e = some (.int k)) (hc : Try.prog.cellsOf e = 1)
    (h : DataW.trod enc Try.prog w base spare held fuel t [v] = some x) : ∃ A c xs, v = .slice A xs.length c ∧ xs.length ≤ c ∧ ReadsOf (Value.int k) 0 w A xs.length xs ∧ ∀ z ∈ xs, (Lit.int k z).wf = true := by
  rcases open_ints ht he hc h with ⟨hcs, _⟩ | ⟨a, len, cap, zs, hcs, _, hl, hm, hz, _, hcell, hw⟩
  · simp at hcs
    exact ⟨none, 0, [], hcs, by simp, ReadsOf.nil _ _ _, by simp⟩
  · simp at hcs
    subst hcs
    have hle : len ≤ zs.length := by rw [hz]; split <;> omega
    have e1 : (zs.take len).length = len := by simp; omega
    refine ⟨some a, cap, zs.take len, by rw [e1], by rw [e1]; exact hl, ⟨rfl, by rw [e1]; unfold maxLen at hm; omega, fun _ => ⟨a, rfl, fun j hj => ?_⟩⟩, fun z hz => hw z (List.mem_of_mem_take hz)⟩
    rw [e1] at hj
    rw [hcell j (by omega)]
    simp [List.getD_eq_getElem?_getD, List.getElem?_take, hj]

instance : Inhabited S32 := ⟨z32⟩
theorem open_acts {fuel : Nat} {v : Value} {x : DataW H × List MemPlace} (h : DataW.trod enc Try.prog w base spare held fuel 22 [v] = some x) :
    ∃ A c l, v = .slice A l.length c ∧ l.length ≤ c ∧ Kd.C k32 w A l.length l ∧ ∀ z ∈ l, z.f4 ≤ 9223372036854775807 := by
  rcases Go.Deep.open_slice Try.underlying22 h with ⟨hcs, _⟩ | ⟨a, len, cap, m, n, D, Pl, hcs, hb, hl, hm, hmm, _, hx⟩
  · simp at hcs
    exact ⟨none, 0, [], hcs, by simp, Kd.C_nil k32 w, by simp⟩
  · simp at hcs
    subst hcs
    have hlm : len ≤ m := by rw [hmm]; split <;> omega
    have ce : Try.prog.cellsOf 32 = 6 := by kernel_rfl
    have each : ∀ i, i < len → ∃ y : S32, (∃ c : List Value, c.length = 6 ∧ k32.K w y c ∧ ∀ j u, c[j]? = some u → w.cell? (a.add (i * 6 + j)) = some u) ∧ y.f4 ≤ 9223372036854775807 := by
      intro i hi
      obtain ⟨cs', h1, h2⟩ := hx i (by omega)
      rw [ce] at h1
      obtain ⟨_, hlen, hcell⟩ := World.cells?_some h1
      obtain ⟨xs, k, hk, hxy, _, hxl, hf⟩ := DataW.trod_struct Try.underlying32 h2
      match xs, hxl, cs', hlen with
      | [y0, y1, y2, y3, y4, y5], _, [v0, v1, v2, v3, v4, v5], _ =>
        have c3 : Try.prog.cellsOf 3 = 1 := by kernel_rfl
        have c9 : Try.prog.cellsOf 9 = 1 := by kernel_rfl
        have c29 : Try.prog.cellsOf 29 = 1 := by kernel_rfl
        have c30 : Try.prog.cellsOf 30 = 1 := by kernel_rfl
        have g0 : DataW.trod enc Try.prog w base spare held k 3 [v0] = some y0 := by
          have h0 : DataW.trod enc Try.prog w base spare held k 3 (List.take (Try.prog.cellsOf 3) [v0, v1, v2, v3, v4, v5]) = some y0 := hf 0 _ rfl
          rw [c3] at h0
          exact h0
        have g1 : DataW.trod enc Try.prog w base spare held k 9 [v1] = some y1 := by
          have h0 : DataW.trod enc Try.prog w base spare held k 9 (List.take (Try.prog.cellsOf 9) [v1, v2, v3, v4, v5]) = some y1 := hf 1 _ rfl
          rw [c9] at h0
          exact h0
        have g2 : DataW.trod enc Try.prog w base spare held k 9 [v2] = some y2 := by
          have h0 : DataW.trod enc Try.prog w base spare held k 9 (List.take (Try.prog.cellsOf 9) [v2, v3, v4, v5]) = some y2 := hf 2 _ rfl
          rw [c9] at h0
          exact h0
        have g3 : DataW.trod enc Try.prog w base spare held k 29 [v3] = some y3 := by
          have h0 : DataW.trod enc Try.prog w base spare held k 29 (List.take (Try.prog.cellsOf 29) [v3, v4, v5]) = some y3 := hf 3 _ rfl
          rw [c29] at h0
          exact h0
        have g4 : DataW.trod enc Try.prog w base spare held k 3 [v4] = some y4 := by
          have h0 : DataW.trod enc Try.prog w base spare held k 3 (List.take (Try.prog.cellsOf 3) [v4, v5]) = some y4 := hf 4 _ rfl
          rw [c3] at h0
          exact h0
        have g5 : DataW.trod enc Try.prog w base spare held k 30 [v5] = some y5 := by
          have h0 : DataW.trod enc Try.prog w base spare held k 30 (List.take (Try.prog.cellsOf 30) [v5]) = some y5 := hf 5 _ rfl
          rw [c30] at h0
          exact h0
        obtain ⟨z0, e0, _, _⟩ := DataW.trod_int Try.underlying3 g0
        obtain ⟨s1, e1, _, _⟩ := DataW.trod_string Try.underlying9 g1
        obtain ⟨s2, e2, _, _⟩ := DataW.trod_string Try.underlying9 g2
        obtain ⟨A3, c3, b3, e3, l3, r3, _⟩ := slice_reads Try.underlying29 Try.underlying5 (by kernel_rfl) g3
        obtain ⟨z4, e4, _, w4⟩ := DataW.trod_int Try.underlying3 g4
        obtain ⟨A5, c5, b5, e5, l5, r5, _⟩ := slice_reads Try.underlying30 Try.underlying3 (by kernel_rfl) g5
        simp at e0 e1 e2 e4
        subst e0 e1 e2 e3 e4 e5
        refine ⟨⟨z0, s1, s2, b3, z4, b5⟩, ⟨_, ?_, k32_mk w ⟨z0, s1, s2, b3, z4, b5⟩ l3 (Kd.C_of_reads r3) l5 (Kd.C_of_reads r5), ?_⟩, ?_⟩
        · rfl
        · intro j u hu
          have hj : j < 6 := by
            have := (List.getElem?_eq_some_iff.1 hu).1
            simpa using this
          have := hcell j hj
          rw [Go.Deep.add_add] at this
          rw [this]; exact hu
        · have w5 : IntKind.i64.min ≤ z4 ∧ z4 ≤ IntKind.i64.max := by simpa [Lit.wf] using w4
          have e : IntKind.i64.max = 9223372036854775807 := by decide
          have := w5.2
          show z4 ≤ 9223372036854775807
          omega
    obtain ⟨y, hy⟩ := Go.Deep.choose_lt each
    have e1 : ((List.range len).map y).length = len := by simp
    refine ⟨some a, cap, (List.range len).map y, by rw [e1], by rw [e1]; exact hl, ⟨rfl, by rw [e1]; unfold maxLen at hm; omega, fun _ => ⟨a, rfl, fun j p hj => ?_⟩⟩, ?_⟩
    · obtain ⟨hjl, e⟩ := List.getElem?_eq_some_iff.1 hj
      rw [e1] at hjl
      have : p = y j := by rw [← e]; simp
      subst this
      exact (hy j hjl).1
    · intro z hz
      obtain ⟨i, hi, rfl⟩ := List.mem_map.1 hz
      exact (hy i (List.mem_range.1 hi)).2
end
end Go.Proofs.Ytajgimacecjnkaa
