/- bytes.Clone, Read. -/
import Derived.Test.YtajgimacecjnkaaDel
set_option linter.unusedSimpArgs false
set_option linter.unusedVariables false
namespace Go.Proofs.Ytajgimacecjnkaa
open Go.RowKit Go.Lib Go.Proofs.YtajgimacecjnkaaW.PrintWords

theorem clone_c {w : World} {base : Nat} (v : Value) (xs : List Int) (h : DataAt w base v xs) (hl : xs.length ≤ 140737488355328) :
    Calls Try.prog 27 #[v] w fun e w' => ∃ v1, e = .returned v1 ∧ DataAt w' w.heap.size v1 xs ∧ Below w.heap.size w w' := by
  rcases h.out with ⟨rfl, rfl⟩ | ⟨g, cap, cur, rfl, hg, hh, h1, h2, h3, hc⟩
  · have he := fun w : World => Lib.run_eql_slice_nil (P := Try.prog) w 29 5 none 0 0 0 0 Try.underlying29
    go_enter Try.func27, Try.ntmps27
    go_wp2
    go_ret
    exact ⟨_, rfl, DataAt.nil _ _, Below.refl _ _⟩
  · obtain ⟨A, c, e, _, hr⟩ := h.reads
    simp at e
    obtain ⟨rfl, rfl⟩ := e
    have hn : (w.alloc (.cells #[] 5)).heap[w.heap.size]? = some (.cells #[] 5 (0, 0)) := heap_alloc_new w _
    have hd0 : DataAt (w.alloc (.cells #[] 5)) w.heap.size (.slice (some ⟨w.heap.size, 0, none⟩) 0 0) [] := ⟨.inr ⟨w.heap.size, 0, #[], rfl, Nat.le_refl _, hn, by simp, by simp, by simp [maxLen], fun j hj => by simp at hj⟩⟩
    obtain ⟨v1, w2, hrun, hd, hg2, hat⟩ := append_data (w := w.alloc (.cells #[] 5)) hd0 (some ⟨g, 0, none⟩) xs.length cap (hr.allocS _) (by simp) (by simp; omega) 29
    have HX := Aside.mk (And.intro hrun (And.intro hd hg2))
    clear h hh hc hr hd0 hn hrun hd hg2 hat
    have he := fun w : World => Lib.run_eql_slice_nil (P := Try.prog) w 29 5 (some ⟨g, 0, none⟩) xs.length cap 0 0 Try.underlying29
    go_enter Try.func27, Try.ntmps27
    go_wp2_with (at_builtin; refine wpList_append_run rfl (.tmp 5) (.tmp 6) 29 29 rfl rfl (.slice (some ⟨w.heap.size, 0, none⟩) 0 0) _ _ rfl rfl HX.out.1 ?_)
    go_ret
    refine ⟨_, rfl, by simpa using HX.out.2.1, (below_alloc (Below.refl _ _) _).grown HX.out.2.2 (by simp) (fun k e => by simp [Value.ownBlock] at e; omega)⟩

/-- What Read answers. -/
def ReadRel (w : World) (D : Dk) (name : ByteArray) (e : Ending) (w' : World) : Prop :=
  ∃ v1 xs code, e = .returned (.tuple #[v1, .int .i64 code]) ∧ DataAt w' w.heap.size v1 xs ∧ Below w.heap.size w w' ∧ (∀ f, D.down = false → nameOk name = true → look D.fs name = some f → code = 0 ∧ xs = f.data)
theorem read_c {w : World} {base : Nat} {D : Dk} (name : ByteArray) (h : DiskAt w base D) (hs : name.size ≤ 9223372036854775807) :
    Calls Try.prog 13 #[.pointer (some ⟨D.b, 0, none⟩), .string name] w (ReadRel w D name) := by
  have c4 := (dcells h.hb).c4
  have HD := Aside.mk h
  cases hd : D.down with
  | true =>
    rw [hd] at c4
    have HX := Aside.mk hd
    clear h hd
    go_enter Try.func13, Try.ntmps13
    go_wp2
    go_ret2
    exact ⟨_, [], _, rfl, DataAt.nil _ _, Below.refl _ _, fun _ a => by rw [HX.out] at a; cases a⟩
  | false =>
    rw [hd] at c4
    have HF := Aside.mk (find_any name h hs)
    have no : ∀ code : Int, (∀ f, nameOk name = true → look D.fs name = some f → False) → ∀ w1, Below w.heap.size w w1 → ReadRel w D name (.returned (.tuple #[.slice none 0 0, .int .i64 code])) w1 := fun code hno w1 hb => ⟨_, [], _, rfl, DataAt.nil _ _, hb, fun f _ b c => (hno f b c).elim⟩
    have NO := Aside.mk no
    by_cases hn : nameOk name = true
    · cases hl : look D.fs name with
      | none =>
        have ev : findV D.fs name = .tuple #[.pointer none, .int .i64 8] := by simp [findV, hn, hl, lookV]
        rw [ev] at HF
        have HL := Aside.mk hl
        clear h hd hn hl no ev
        go_enter Try.func13, Try.ntmps13
        go_wp2_with fail
        refine HF.out.mono ?_
        rintro e w1 ⟨rfl, hb⟩
        have HB := Aside.mk hb
        clear hb
        go_wp2
        go_ret2
        exact NO.out 8 (fun f _ hf => by rw [HL.out] at hf; cases hf) _ HB.out
      | some f =>
        have ev : findV D.fs name = .tuple #[.pointer (some ⟨f.fb, 0, none⟩), .int .i64 0] := by simp [findV, hn, hl, lookV]
        rw [ev] at HF
        have HM := Aside.mk (look_mem hl).1
        have HL := Aside.mk hl
        have hlen : (f.data.length : Int) ≤ 1099511627776 := by
          have := len_le_sum (look_mem hl).1; have := h.used; have := h.le; have := h.room; omega
        have HDN := Aside.mk hd
        clear h hd hn hl no ev NO c4
        have c4 := (dcells HD.out.hb).c4
        rw [show D.down = false from HDN.out] at c4
        go_enter Try.func13, Try.ntmps13
        go_wp2_with fail
        refine HF.out.mono ?_
        rintro e w1 ⟨rfl, hb⟩
        have HB := Aside.mk hb
        have HD1 := HD.out.below hb
        have HFA := HD1.hf f HM.out
        have d0 := (fcells HFA.hb).c0
        have HC := Aside.mk (clone_c f.v f.data HFA.own (by omega))
        clear hb HD1 HFA
        go_wp2_with fail
        refine HC.out.mono ?_
        rintro e w2 ⟨v1, rfl, hdd, hb2⟩
        have HX := Aside.mk (And.intro hdd hb2)
        obtain ⟨A, c, rfl, _, _⟩ := hdd.form
        clear hdd hb2
        go_wp2
        go_ret2
        refine ⟨_, f.data, _, rfl, ?_, HB.out.trans (HX.out.2.mono HB.out.size), fun g _ _ hg => ⟨rfl, by rw [HL.out] at hg; cases hg; rfl⟩⟩
        have := HX.out.1
        refine ⟨?_⟩
        rcases this.out with h | ⟨g, cap, cur, e, hg, r⟩
        · exact .inl h
        · exact .inr ⟨g, cap, cur, e, Nat.le_trans HB.out.size hg, r⟩
    · have ev : findV D.fs name = .tuple #[.pointer none, .int .i64 1] := by simp [findV, hn]
      rw [ev] at HF
      have HN := Aside.mk hn
      clear h hd hn no ev
      go_enter Try.func13, Try.ntmps13
      go_wp2_with fail
      refine HF.out.mono ?_
      rintro e w1 ⟨rfl, hb⟩
      have HB := Aside.mk hb
      clear hb
      go_wp2
      go_ret2
      exact NO.out 1 (fun f hf _ => HN.out hf) _ HB.out
end Go.Proofs.Ytajgimacecjnkaa
