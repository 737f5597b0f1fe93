/- The disk's small functions, each by its walk. -/
import Derived.Test.YtajgimacecjnkaaBase
import Derived.WalkKit
import Derived.WalkLawsBesides
import Derived.WalkSpells
import Derived.Outline
set_option linter.unusedSimpArgs false
set_option linter.unusedVariables false
namespace Go.Proofs.Ytajgimacecjnkaa
open Go.RowKit Go.Lib Go.Proofs.YtajgimacecjnkaaW.PrintWords

theorem new_bad (n : Int) (w : World) (h : n < 0 ∨ 1099511627776 < n) :
    Calls Try.prog 8 #[.int .i64 n] w fun e w' => e = .returned (.pointer none) ∧ w = w' := by
  rcases h with h | h
  · have h1 : decide (n < 0) = true := by simp [h]
    go_enter Try.func8, Try.ntmps8
    go_wp2
    go_ret
    exact ⟨rfl, rfl⟩
  · have h1 : decide (n < 0) = false := by simp; omega
    have h2 : decide (1099511627776 < n) = true := by simp [h]
    go_enter Try.func8, Try.ntmps8
    go_wp2
    go_ret
    exact ⟨rfl, rfl⟩

theorem new_good (n : Int) (w : World) (h0 : 0 ≤ n) (h1 : n ≤ 1099511627776) :
    Calls Try.prog 8 #[.int .i64 n] w fun e w' => e = .returned (.pointer (some ⟨w.heap.size + 1, 0, none⟩)) ∧ w' = (w.alloc (.map #[] 0)).alloc (DiskObj n 0 w.heap.size (-1) false) := by
  have h1 : decide (n < 0) = false := by simp; omega
  have h2 : decide (1099511627776 < n) = false := by simp; omega
  have hmm := @run_makeMap Try.prog
  go_enter Try.func8, Try.ntmps8
  go_wp2
  go_ret
  exact ⟨rfl, rfl⟩

theorem up_any (b : Nat) {room used : Int} {m : Nat} {fuse : Int} {down : Bool} (w : World) (h : w.heap[b]? = some (DiskObj room used m fuse down)) :
    Calls Try.prog 22 #[.pointer (some ⟨b, 0, none⟩)] w fun e w' => e = .returned (.bool (!down)) ∧ w = w' := by
  have hd := (dcells h).c4
  clear h
  go_enter Try.func22, Try.ntmps22
  go_wp2
  go_ret
  exact ⟨rfl, rfl⟩
theorem up_nil (w : World)  :
    Calls Try.prog 22 #[.pointer none] w fun e w' => e = .returned (.bool false) ∧ w = w' := by
  go_enter Try.func22, Try.ntmps22
  go_wp2
  go_ret
  exact ⟨rfl, rfl⟩
theorem down_any (b : Nat) {room used : Int} {m : Nat} {fuse : Int} {down : Bool} (w : World) (h : w.heap[b]? = some (DiskObj room used m fuse down)) :
    Calls Try.prog 20 #[.pointer (some ⟨b, 0, none⟩)] w fun e w' => e = .returned (.bool down) ∧ w = w' := by
  have hd := (dcells h).c4
  clear h
  go_enter Try.func20, Try.ntmps20
  go_wp2
  go_ret
  exact ⟨rfl, rfl⟩
theorem down_nil (w : World)  :
    Calls Try.prog 20 #[.pointer none] w fun e w' => e = .returned (.bool false) ∧ w = w' := by
  go_enter Try.func20, Try.ntmps20
  go_wp2
  go_ret
  exact ⟨rfl, rfl⟩
theorem used_any (b : Nat) {room used : Int} {m : Nat} {fuse : Int} {down : Bool} (w : World) (h : w.heap[b]? = some (DiskObj room used m fuse down)) :
    Calls Try.prog 9 #[.pointer (some ⟨b, 0, none⟩)] w fun e w' => e = .returned (.int .i64 (if down then 0 else used)) ∧ w = w' := by
  have hd := (dcells h).c1
  have hu := up_any b w h
  clear h
  cases down
  · go_enter Try.func9, Try.ntmps9
    go_wp2_with (go_at_call 22; refine hu.mono ?_; rintro e w' ⟨rfl, rfl⟩)
    go_ret
    exact ⟨rfl, rfl⟩
  · go_enter Try.func9, Try.ntmps9
    go_wp2_with (go_at_call 22; refine hu.mono ?_; rintro e w' ⟨rfl, rfl⟩)
    go_ret
    exact ⟨rfl, rfl⟩
theorem spent_pos (b : Nat) {room used : Int} {m : Nat} {fuse : Int} {down : Bool} (w : World) (h : w.heap[b]? = some (DiskObj room used m fuse down)) (hp : 0 < fuse) (hp' : fuse ≤ 9223372036854775807) :
    Calls Try.prog 28 #[.pointer (some ⟨b, 0, none⟩)] w fun e w' => e = .returned (.bool false) ∧ w' = w.setCell ⟨b, 3, none⟩ (.int .i64 (fuse - 1)) := by
  have hd := (dcells h).c3
  have hf := (dcells h).f3
  clear h
  go_enter Try.func28, Try.ntmps28
  go_wp2
  go_ret
  exact ⟨rfl, rfl⟩
theorem spent_neg (b : Nat) {room used : Int} {m : Nat} {fuse : Int} {down : Bool} (w : World) (h : w.heap[b]? = some (DiskObj room used m fuse down)) (hp : fuse ≤ 0) :
    Calls Try.prog 28 #[.pointer (some ⟨b, 0, none⟩)] w fun e w' => e = .returned (.bool (fuse == 0)) ∧ w = w' := by
  have hd := (dcells h).c3
  have hf := (dcells h).f3
  clear h
  have h1 : decide (0 < fuse) = false := by simp; omega
  go_enter Try.func28, Try.ntmps28
  go_wp2
  go_ret
  exact ⟨rfl, rfl⟩
theorem fail_any (b : Nat) {room used : Int} {m : Nat} {fuse : Int} {down : Bool} (w : World) (h : w.heap[b]? = some (DiskObj room used m fuse down)) :
    Calls Try.prog 30 #[.pointer (some ⟨b, 0, none⟩)] w fun e w' => e = .returned (.int .i64 15) ∧ w' = w.setCell ⟨b, 4, none⟩ (.bool true) := by
  have hd := (dcells h).c4
  have hf := (dcells h).f4
  clear h
  go_enter Try.func30, Try.ntmps30
  go_wp2
  go_ret
  exact ⟨rfl, rfl⟩
set_option maxRecDepth 100000 in
set_option maxHeartbeats 800000 in
theorem isName_any (s : ByteArray) (w : World) (hs : s.size ≤ 9223372036854775807) :
    Calls Try.prog 34 #[.string s] w fun e w' => e = .returned (.bool (nameOk s)) ∧ w' = bytesWorld w 5 s := by
  have hcv := Lib.run_convert_string_bytes (P := Try.prog) w 9 29 5 s (u := .string) Try.underlying9 Try.underlying29 Try.underlying5
  go_enter Try.func34, Try.ntmps34
  go_wp2
  go_loop [10] (fun i => ∃ k : Nat, k ≤ s.size ∧ i = .int .i64 k ∧ ((chars s).take k).all okByte = true) (fun i => s.size - (intOf i).toNat)
  case atStart => exact ⟨0, Nat.zero_le _, rfl, rfl⟩
  case round =>
    obtain ⟨k, hk, rfl, hall⟩ := hrel
    have Hall := Aside.mk hall; clear hall
    by_cases hlt : k < s.size
    · have hcell := bytesWorld_cell w 5 s k hlt
      have hg := chars_get s k hlt
      have hl : k < (chars s).length := by rw [chars_len]; exact hlt
      have h255 : (s.data.toList.getD k 0).toNat < 256 := UInt8.toNat_lt _
      generalize (s.data.toList.getD k 0).toNat = c at *
      have Hg := Aside.mk hg; clear hg
      have MK : Aside (okByte c = true → ((chars s).take (k + 1)).all okByte = true) := Aside.mk fun h => take_succ_all _ _ k hl Hall.out (by rw [Hg.out]; exact h)
      have MF : Aside (okByte c = false → nameOk s = false) := Aside.mk fun h => by unfold nameOk; rw [all_false _ _ k hl (by rw [Hg.out]; exact h)]; rfl
      go_wp2
      all_goals first
        | (refine ⟨⟨k + 1, by omega, by go_num, MK.out ?_⟩, by simp [intOf]; omega⟩; rw [okByte_t]; simp only [Bool.not_eq_false', decide_eq_true_eq, bne_eq_false_iff_eq] at *; omega)
        | (have hx : okByte c = false := by rw [okByte_f]; simp only [Bool.not_eq_true', decide_eq_false_iff_not, bne_iff_ne, ne_eq] at *; omega
           go_ret; exact ⟨ret_bool (MF.out hx).symm, rfl⟩)
    · have hz : k = s.size := by omega
      subst hz
      have hA : (chars s).all okByte = true := by have := Hall.out; rwa [List.take_of_length_le (by rw [chars_len]; exact Nat.le_refl _)] at this
      have HA := Aside.mk hA
      clear hA
      go_wp2
      · go_ret
        exact ⟨ret_bool (by unfold nameOk; rw [HA.out, decide_eq_true (show 1 ≤ s.size by omega)]; simp; omega), rfl⟩
      · go_ret
        exact ⟨ret_bool (by unfold nameOk; rw [HA.out, decide_eq_false (show ¬ 1 ≤ s.size by omega)]; rfl), rfl⟩

theorem fuse_any (b : Nat) (n : Int) {room used : Int} {m : Nat} {fuse : Int} {down : Bool} (w : World) (h : w.heap[b]? = some (DiskObj room used m fuse down)) :
    Calls Try.prog 11 #[.pointer (some ⟨b, 0, none⟩), .int .i64 n] w fun e w' => e = .returned (.tuple #[]) ∧ w' = w.setCell ⟨b, 3, none⟩ (.int .i64 (if n < -1 then -1 else n)) := by
  have hd := (dcells h).c3
  have hf := (dcells h).f3
  clear h
  by_cases hn : n < -1
  · go_enter Try.func11, Try.ntmps11
    go_wp2
    go_end0
    exact ⟨rfl, by simp [hn]⟩
  · go_enter Try.func11, Try.ntmps11
    go_wp2
    go_end0
    exact ⟨rfl, by simp [hn]⟩
theorem fuse_nil (n : Int) (w : World) :
    Calls Try.prog 11 #[.pointer none, .int .i64 n] w fun e w' => e = .returned (.tuple #[]) ∧ w = w' := by
  go_enter Try.func11, Try.ntmps11
  go_wp2
  go_end0
  exact ⟨rfl, rfl⟩
theorem used_nil (w : World) : Calls Try.prog 9 #[.pointer none] w fun e w' => e = .returned (.int .i64 0) ∧ w = w' := by
  have hu := up_nil w
  go_enter Try.func9, Try.ntmps9
  go_wp2_with (go_at_call 22; refine hu.mono ?_; rintro e w' ⟨rfl, rfl⟩)
  go_ret
  exact ⟨rfl, rfl⟩
theorem mod_eq (n k : Int) (h0 : 0 < k) (h1 : k ≤ 4611686018427387904) : wrap64 (Int.tmod n k + k) = Int.tmod n k + k ∧ (Int.tmod n k + k) % k = n % k := by
  have a1 := Int.tmod_lt_of_pos n h0
  have a2 : -k < Int.tmod n k := Int.lt_tmod_of_pos n h0
  refine ⟨by unfold wrap64; omega, ?_⟩
  rw [Int.add_emod_right]
  have e := Int.tmod_add_mul_tdiv n k
  have : n % k = (Int.tmod n k) % k := by
    conv => lhs; rw [← e]
    rw [Int.add_mul_emod_self_left]
  omega
theorem modulo_any (n k : Int) (w : World) (h0 : 0 < k) (h1 : k ≤ 4611686018427387904) :
    Calls Try.prog 25 #[.int .i64 n, .int .i64 k] w fun e w' => e = .returned (.int .i64 (n % k)) ∧ w = w' := by
  have a1 := Int.tmod_lt_of_pos n h0
  have a2 : -k < Int.tmod n k := Int.lt_tmod_of_pos n h0
  have h2 : ¬ k = 0 := by omega
  have h3 : (k == 0) = false := by simp [h2]
  go_enter Try.func25, Try.ntmps25
  go_wp2
  go_ret
  exact ⟨ret_i64 (mod_eq n k h0 h1).2, rfl⟩

theorem below_bytes (w : World) (s : ByteArray) : Below w.heap.size w (bytesWorld w 5 s) :=
  ⟨by simp [bytesWorld, World.freeze, World.alloc, World.drew, -World.alloc_eq, -World.drew_eq], by simp [bytesWorld, World.freeze, World.alloc, World.drew, -World.alloc_eq, -World.drew_eq], by simp [bytesWorld, World.freeze, World.alloc, World.drew, -World.alloc_eq, -World.drew_eq], by rw [bytesWorld_size]; omega, fun k hk => bytesWorld_at_old w 5 s k hk⟩
theorem isName_c (s : ByteArray) (w : World) (hs : s.size ≤ 9223372036854775807) :
    Calls Try.prog 34 #[.string s] w fun e w' => e = .returned (.bool (nameOk s)) ∧ Below w.heap.size w w' :=
  (isName_any s w hs).mono fun e w' ⟨h1, h2⟩ => ⟨h1, by rw [h2]; exact below_bytes w s⟩
end Go.Proofs.Ytajgimacecjnkaa
