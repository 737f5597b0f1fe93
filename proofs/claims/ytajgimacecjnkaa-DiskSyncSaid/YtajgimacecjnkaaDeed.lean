/- deed: what goes ahead of a deed with a file. -/
import Derived.Test.YtajgimacecjnkaaApp
set_option linter.unusedSimpArgs false
set_option linter.unusedVariables false
namespace Go.Proofs.Ytajgimacecjnkaa
open Go.RowKit Go.Lib Go.Proofs.YtajgimacecjnkaaW.PrintWords

/-- The deed isn't done. -/
def DeedNo (w : World) (base : Nat) (D : Dk) (name : ByteArray) (e : Ending) (w' : World) : Prop :=
  ∃ code D', e = .returned (.int .i64 code) ∧ DiskAt w' base D' ∧ Below base w w' ∧ Same D D' ∧ D'.fs = D.fs ∧ D'.used = D.used ∧ code ≠ 0 ∧ code ≠ 7 ∧ (D.down = true ∨ D.fuse = 0 ∨ nameOk name = false ∨ look D.fs name = none)

set_option maxRecDepth 100000 in
theorem deed_c {w : World} {base : Nat} {D : Dk} (name : ByteArray) (k : Nat) (lb : Array Value) (R : FileE → Ending → World → Prop) (h : DiskAt w base D) (hbase : base ≤ w.heap.size) (hs : name.size ≤ 9223372036854775807)
    (hent : ∀ args w, (callFunc k args).run Try.prog w = .ok (.enter k args) w) (hR : ∀ f e w', R f e w' → ∃ v, e = .returned v)
    (HK : ∀ f w2, look D.fs name = some f → D.down = false → D.fuse ≠ 0 → DiskAt w2 base { D with fuse := burnt D.fuse } → Below base w w2 → (∀ j, j < w.heap.size → j ≠ D.b → w2.heap[j]? = w.heap[j]?) → Calls Try.prog k (#[.pointer (some ⟨f.fb, 0, none⟩)] ++ lb) w2 (R f)) :
    Calls Try.prog 31 #[.pointer (some ⟨D.b, 0, none⟩), .string name, .func (.func k) #[] lb] w fun e w' => DeedNo w base D name e w' ∨ ∃ f, look D.fs name = some f ∧ D.down = false ∧ D.fuse ≠ 0 ∧ R f e w' := by
  have c4 := (dcells h.hb).c4
  cases hd : D.down with
  | true =>
    rw [hd] at c4
    have HD := Aside.mk h
    have HX := Aside.mk hd
    clear h hd HK hR hent
    go_enter Try.func31, Try.ntmps31
    go_wp2
    go_ret
    exact .inl ⟨15, D, rfl, HD.out, Below.refl _ _, ⟨rfl, rfl, rfl⟩, rfl, rfl, by decide, by decide, .inl HX.out⟩
  | false =>
    rw [hd] at c4
    have HS := Aside.mk (spent_c h)
    have HD := Aside.mk h
    cases hz : (D.fuse == 0) with
    | true =>
      rw [hz] at HS
      have HZ := Aside.mk hz
      clear h hd hz HK hR hent
      go_enter Try.func31, Try.ntmps31
      go_wp2_with fail
      refine HS.out.mono ?_
      rintro e w1 ⟨rfl, hd1, hb1, hk1⟩
      have HB1 := Aside.mk hb1
      have HF := Aside.mk (fail_c hd1)
      clear hd1 hb1 hk1 c4
      go_wp2_with fail
      refine HF.out.mono ?_
      rintro e w3 ⟨rfl, hd3, hb3⟩
      have HD3 := Aside.mk hd3
      have HB3 := Aside.mk hb3
      clear hd3 hb3
      go_wp2
      go_ret
      exact .inl ⟨15, _, rfl, HD3.out, HB1.out.trans HB3.out, ⟨rfl, rfl, rfl⟩, rfl, rfl, by decide, by decide, .inr (.inl (by simpa using HZ.out))⟩
    | false =>
      rw [hz] at HS
      have hz' : D.fuse ≠ 0 := by simpa using hz
      have HZ := Aside.mk hz'
      have HDN := Aside.mk hd
      have HK := Aside.mk HK
      have hR := Aside.mk hR
      clear h hd hz hz'
      go_enter Try.func31, Try.ntmps31
      go_wp2_with fail
      refine HS.out.mono ?_
      rintro e w1 ⟨rfl, hd1, hb1, hk1⟩
      have HB1 := Aside.mk hb1
      have HK1 := Aside.mk hk1
      have HF := Aside.mk (find_any name hd1 hs)
      have HD1 := Aside.mk hd1
      clear hd1 hb1 hk1 c4
      go_wp2_with fail
      refine HF.out.mono ?_
      rintro e w2 ⟨rfl, hb2⟩
      have HD2 := Aside.mk (HD1.out.below hb2)
      have HB2 := Aside.mk hb2
      clear hb2
      by_cases hn : nameOk name = true
      · cases hl : look D.fs name with
        | none =>
          have ev : findV D.fs name = .tuple #[.pointer none, .int .i64 8] := by simp [findV, hn, hl, lookV]
          have HL := Aside.mk hl
          clear hl hn
          rw [ev]
          clear ev
          go_wp2
          go_ret
          exact .inl ⟨8, _, rfl, HD2.out, HB1.out.trans (HB2.out.mono (Nat.le_trans hbase HB1.out.size)), ⟨rfl, rfl, rfl⟩, rfl, rfl, by decide, by decide, .inr (.inr (.inr HL.out))⟩
        | some f =>
          have ev : findV D.fs name = .tuple #[.pointer (some ⟨f.fb, 0, none⟩), .int .i64 0] := by simp [findV, hn, hl, lookV]
          have HC := Aside.mk (HK.out f w2 hl HDN.out HZ.out HD2.out (HB1.out.trans (HB2.out.mono (Nat.le_trans hbase HB1.out.size))) (fun j h1 h2 => (HB2.out.block j (Nat.lt_of_lt_of_le h1 HB1.out.size)).trans (HK1.out j h2)))
          have HL := Aside.mk hl
          clear hl hn
          rw [ev]
          clear ev
          go_wp2_with fail
          refine HC.out.mono ?_
          intro e w3 hr
          obtain ⟨v, rfl⟩ := hR.out _ _ _ hr
          have HRR := Aside.mk hr
          clear hr
          go_wp2
          go_ret
          exact .inr ⟨f, HL.out, by first | exact HDN.out | trivial, HZ.out, HRR.out⟩
      · have hn' : nameOk name = false := by simpa using hn
        have ev : findV D.fs name = .tuple #[.pointer none, .int .i64 1] := by simp [findV, hn']
        have HN := Aside.mk hn'
        clear hn hn'
        rw [ev]
        clear ev
        go_wp2
        go_ret
        exact .inl ⟨1, _, rfl, HD2.out, HB1.out.trans (HB2.out.mono (Nat.le_trans hbase HB1.out.size)), ⟨rfl, rfl, rfl⟩, rfl, rfl, by decide, by decide, .inr (.inr (.inl HN.out))⟩
end Go.Proofs.Ytajgimacecjnkaa
