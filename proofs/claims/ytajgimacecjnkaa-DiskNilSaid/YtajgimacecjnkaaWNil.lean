/- The walk of DiskNil. -/
import Derived.Test.YtajgimacecjnkaaAwake
set_option linter.unusedSimpArgs false
set_option linter.unusedVariables false
namespace Go.Proofs.Ytajgimacecjnkaa
open Go.RowKit Go.Lib Go.Proofs.YtajgimacecjnkaaW.PrintWords

set_option maxRecDepth 100000 in
theorem diskNil_c (name : ByteArray) (n : Int) (w : World) :
    Calls Try.prog 4 #[.string name, .int .i64 n] w fun e w' => e = .returned (.bool true) ∧ Below w.heap.size w w' := by
  go_enter Try.func4, Try.ntmps4
  go_wp2_with fail
  refine (fuse_nil _ _).mono ?_
  rintro e w1 ⟨rfl, rfl⟩
  go_wp2_with fail
  refine (boot_nil _ _).mono ?_
  rintro e w1 ⟨rfl, rfl⟩
  go_wp2_with fail
  refine (read_nil _ _).mono ?_
  rintro e w1 ⟨rfl, rfl⟩
  go_wp2_with fail
  refine (append_nil _ _ _).mono ?_
  rintro e w1 ⟨rfl, rfl⟩
  go_wp2_with fail
  refine (sync_nil _ _).mono ?_
  rintro e w1 ⟨rfl, rfl⟩
  go_wp2_with fail
  refine (rename_nil _ _ _).mono ?_
  rintro e w1 ⟨rfl, hb1⟩
  have B1 := Aside.mk hb1
  clear hb1
  go_wp2_with fail
  refine (delete_nil _ _).mono ?_
  rintro e w2 ⟨rfl, hb2⟩
  have B2 := Aside.mk (B1.out.trans (hb2.mono B1.out.size))
  clear hb2 B1
  go_wp2_with fail
  refine (cut_nil _ _ _).mono ?_
  rintro e w3 ⟨rfl, hb3⟩
  have B3 := Aside.mk (B2.out.trans (hb3.mono B2.out.size))
  clear hb3 B2
  go_wp2_with fail
  refine (names_nil _).mono ?_
  rintro e w4 ⟨rfl, rfl⟩
  go_wp2_with fail
  refine (used_nil _).mono ?_
  rintro e w4 ⟨rfl, rfl⟩
  go_wp2_with fail
  refine (down_nil _).mono ?_
  rintro e w4 ⟨rfl, rfl⟩
  go_wp2_with fail
  refine (awake_c _).mono ?_
  rintro e w4 ⟨rfl, hb4⟩
  have B4 := Aside.mk (B3.out.trans (hb4.mono B3.out.size))
  clear hb4 B3
  go_wp2
  go_ret
  exact ⟨rfl, B4.out⟩
end Go.Proofs.Ytajgimacecjnkaa
