/- The disk that is none. -/
import Derived.Test.YtajgimacecjnkaaRead
set_option linter.unusedSimpArgs false
set_option linter.unusedVariables false
namespace Go.Proofs.Ytajgimacecjnkaa
open Go.RowKit Go.Lib Go.Proofs.YtajgimacecjnkaaW.PrintWords

theorem append_nil (name : ByteArray) (bv : Value) (w : World) :
    Calls Try.prog 14 #[.pointer none, .string name, bv] w fun e w' => e = .returned (.int .i64 1) ∧ w = w' := by
  go_enter Try.func14, Try.ntmps14
  go_wp2
  go_ret
  exact ⟨rfl, rfl⟩
theorem deed_nil (name : ByteArray) (fv : Value) (w : World) :
    Calls Try.prog 31 #[.pointer none, .string name, fv] w fun e w' => e = .returned (.int .i64 1) ∧ w = w' := by
  go_enter Try.func31, Try.ntmps31
  go_wp2
  go_ret
  exact ⟨rfl, rfl⟩
theorem read_nil (name : ByteArray) (w : World) :
    Calls Try.prog 13 #[.pointer none, .string name] w fun e w' => e = .returned (.tuple #[.slice none 0 0, .int .i64 1]) ∧ w = w' := by
  go_enter Try.func13, Try.ntmps13
  go_wp2
  go_ret2
  exact ⟨rfl, rfl⟩
theorem names_nil (w : World) :
    Calls Try.prog 19 #[.pointer none] w fun e w' => e = .returned (.slice none 0 0) ∧ w = w' := by
  have hu := up_nil w
  go_enter Try.func19, Try.ntmps19
  go_wp2_with (go_at_call 22; refine hu.mono ?_; rintro e w' ⟨rfl, rfl⟩)
  go_ret
  exact ⟨rfl, rfl⟩
theorem boot_nil (kv : Value) (w : World) :
    Calls Try.prog 12 #[.pointer none, kv] w fun e w' => e = .returned (.tuple #[]) ∧ w = w' := by
  go_enter Try.func12, Try.ntmps12
  go_wp2
  refine bodyPost_ret (results_none rfl _ _ _) rfl ?_
  exact ⟨rfl, rfl⟩
theorem sync_nil (name : ByteArray) (w : World) :
    Calls Try.prog 15 #[.pointer none, .string name] w fun e w' => e = .returned (.int .i64 1) ∧ w = w' := by
  have hu := deed_nil name (.func (.func 32) #[] #[]) w
  go_enter Try.func15, Try.ntmps15
  go_wp2_with fail
  refine hu.mono ?_
  rintro e w' ⟨rfl, rfl⟩
  go_wp2
  go_ret
  exact ⟨rfl, rfl⟩
theorem delete_nil (name : ByteArray) (w : World) :
    Calls Try.prog 17 #[.pointer none, .string name] w fun e w' => e = .returned (.int .i64 1) ∧ Below w.heap.size w w' := by
  have hu := deed_nil name
  go_enter Try.func17, Try.ntmps17
  go_wp2_with fail
  refine (hu _ _).mono ?_
  rintro e w' ⟨rfl, rfl⟩
  go_wp2
  go_ret
  exact ⟨rfl, below_alloc (below_alloc (Below.refl _ _) _) _⟩
theorem rename_nil (src tgt : ByteArray) (w : World) :
    Calls Try.prog 16 #[.pointer none, .string src, .string tgt] w fun e w' => e = .returned (.int .i64 1) ∧ Below w.heap.size w w' := by
  have hu := deed_nil src
  go_enter Try.func16, Try.ntmps16
  go_wp2_with fail
  refine (hu _ _).mono ?_
  rintro e w' ⟨rfl, rfl⟩
  go_wp2
  go_ret
  exact ⟨rfl, below_alloc (below_alloc (below_alloc (Below.refl _ _) _) _) _⟩
theorem cut_nil (name : ByteArray) (n : Int) (w : World) :
    Calls Try.prog 18 #[.pointer none, .string name, .int .i64 n] w fun e w' => e = .returned (.int .i64 1) ∧ Below w.heap.size w w' := by
  have hu := deed_nil name
  go_enter Try.func18, Try.ntmps18
  go_wp2_with fail
  refine (hu _ _).mono ?_
  rintro e w' ⟨rfl, rfl⟩
  go_wp2
  go_ret
  exact ⟨rfl, below_alloc (below_alloc (Below.refl _ _) _) _⟩
end Go.Proofs.Ytajgimacecjnkaa
