import Derived.Test.YtajgimacecjnkaaLeaf
set_option linter.unusedSimpArgs false
set_option linter.unusedVariables false
namespace Go.Proofs.Ytajgimacecjnkaa
open Go.RowKit Go.Lib Go.Proofs.YtajgimacecjnkaaW.PrintWords

/-- what find answers -/
def findV (fs : List FileE) (name : ByteArray) : Value := .tuple #[if nameOk name then lookV fs name else .pointer none, .int .i64 (if nameOk name then (match look fs name with | some _ => 0 | none => 8) else 1)]
theorem find_any {w : World} {base : Nat} {D : Dk} (name : ByteArray) (h : DiskAt w base D) (hs : name.size ≤ 9223372036854775807) :
    Calls Try.prog 26 #[.pointer (some ⟨D.b, 0, none⟩), .string name] w fun e w' => e = .returned (findV D.fs name) ∧ Below w.heap.size w w' := by
  have HN := isName_c name w hs
  have HD := Aside.mk h
  clear h
  cases hn : nameOk name with
  | true =>
    rw [hn] at HN
    cases hlk : look D.fs name with
    | none =>
      have e0 : findV D.fs name = .tuple #[.pointer none, .int .i64 8] := by simp [findV, hn, hlk, lookV]
      rw [e0]
      have hv := Aside.mk (show lookV D.fs name = .pointer none by rw [lookV, hlk])
      have HN := Aside.mk HN
      clear e0 hn hlk
      go_enter Try.func26, Try.ntmps26
      go_wp2_with fail
      refine HN.out.mono ?_
      rintro e w1 ⟨rfl, hb⟩
      have HB := Aside.mk hb
      have HD1 := Aside.mk (HD.out.below hb)
      clear hb
      have c2 := (dcells HD1.out.hb).c2
      have hl := lookup_run HD1.out.hm name
      rw [hv.out] at hl
      go_wp2
      go_ret2
      exact ⟨rfl, HB.out⟩
    | some f =>
      have e0 : findV D.fs name = .tuple #[.pointer (some ⟨f.fb, 0, none⟩), .int .i64 0] := by simp [findV, hn, hlk, lookV]
      rw [e0]
      have hv := Aside.mk (show lookV D.fs name = .pointer (some ⟨f.fb, 0, none⟩) by rw [lookV, hlk])
      have HN := Aside.mk HN
      clear e0 hn hlk
      go_enter Try.func26, Try.ntmps26
      go_wp2_with fail
      refine HN.out.mono ?_
      rintro e w1 ⟨rfl, hb⟩
      have HB := Aside.mk hb
      have HD1 := Aside.mk (HD.out.below hb)
      clear hb
      have c2 := (dcells HD1.out.hb).c2
      have hl := lookup_run HD1.out.hm name
      rw [hv.out] at hl
      go_wp2
      go_ret2
      exact ⟨rfl, HB.out⟩
  | false =>
    rw [hn] at HN
    have e0 : findV D.fs name = .tuple #[.pointer none, .int .i64 1] := by simp [findV, hn]
    rw [e0]
    have HN := Aside.mk HN
    clear e0 hn
    go_enter Try.func26, Try.ntmps26
    go_wp2_with fail
    refine HN.out.mono ?_
    rintro e w1 ⟨rfl, hb⟩
    have HB := Aside.mk hb
    clear hb
    go_wp2
    go_ret2
    exact ⟨rfl, HB.out⟩
end Go.Proofs.Ytajgimacecjnkaa
