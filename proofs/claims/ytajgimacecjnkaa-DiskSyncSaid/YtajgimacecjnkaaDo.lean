/- law06.do. -/
import Derived.Test.YtajgimacecjnkaaAwake
set_option linter.unusedSimpArgs false
set_option linter.unusedVariables false
namespace Go.Proofs.Ytajgimacecjnkaa
open Go.RowKit Go.Lib Go.Proofs.YtajgimacecjnkaaW.PrintWords

/-- What a deed answers and leaves. -/
def Act1 (w : World) (base : Nat) (D : Dk) (e : Ending) (w' : World) : Prop := ∃ code D', e = .returned (.int .i64 code) ∧ DiskAt w' base D' ∧ Below base w w' ∧ Same D D' ∧ (code = 7 → D'.used = D.used ∧ D'.down = D.down)
theorem deed_act {w : World} {base : Nat} {D : Dk} {e : Ending} {w' : World} (h : Deed w base D e w') : Act1 w base D e w' := by
  obtain ⟨code, D', a, b, c, d, n⟩ := h
  exact ⟨code, D', a, b, c, d, fun h => absurd h n⟩

/-- An act, as it lies in a frame. -/
structure ActW (w : World) (base : Nat) (kind : Int) (name to_ : ByteArray) (A3 : Option Addr) (n3 c3 : Nat) (B : List Int) (n : Int) (A5 : Option Addr) (n5 c5 : Nat) (keeps : List Int) : Prop where
  r3 : ReadsOf (Value.int .u8) 0 w A3 n3 B
  b3 : 0 < n3 → ∀ ad, A3 = some ad → ad.block < base
  r5 : ReadsOf (Value.int .i64) 0 w A5 n5 keeps
  b5 : 0 < n5 → ∀ ad, A5 = some ad → ad.block < base
  c5 : n5 ≤ c5
  s1 : name.size ≤ 9223372036854775807
  s2 : to_.size ≤ 9223372036854775807
  n : n ≤ 9223372036854775807

set_option maxRecDepth 100000 in
theorem do_c {w : World} {base : Nat} {D : Dk} (h : DiskAt w base D) (hbase : base ≤ w.heap.size) {kind : Int} {name to_ : ByteArray} {A3 : Option Addr} {n3 c3 : Nat} {B : List Int} {n : Int} {A5 : Option Addr} {n5 c5 : Nat} {keeps : List Int}
    (ha : ActW w base kind name to_ A3 n3 c3 B n A5 n5 c5 keeps) :
    Calls Try.prog 10 #[.pointer (some ⟨D.b, 0, none⟩), .agg #[.int .i64 kind, .string name, .string to_, .slice A3 n3 c3, .int .i64 n, .slice A5 n5 c5]] w (Act1 w base D) := by
  have hb1 : Below w.heap.size w (w.alloc (.cells #[.int .i64 kind, .string name, .string to_, .slice A3 n3 c3, .int .i64 n, .slice A5 n5 c5] 32)) := below_alloc (Below.refl _ _) _
  have hD1 := h.below hb1
  have hle1 : base ≤ (w.alloc (.cells #[.int .i64 kind, .string name, .string to_, .slice A3 n3 c3, .int .i64 n, .slice A5 n5 c5] 32)).heap.size := Nat.le_trans hbase hb1.size
  have HB := Aside.mk (hb1.mono hbase)
  have HA := Aside.mk ha
  have HD := Aside.mk hD1
  have HL := Aside.mk hle1
  have HAA := Aside.mk (append_c name A3 n3 c3 B hD1 hle1 (ha.r3.allocS _) (fun ad e h0 => by have := ha.b3 h0 ad e; have := h.b0; omega) ha.s1)
  have H2 := Aside.mk (sync_c name hD1 hle1 ha.s1)
  have H3 := Aside.mk (rename_c name to_ hD1 hle1 ha.s1 ha.s2)
  have H4 := Aside.mk (delete_c name hD1 hle1 ha.s1)
  have H5 := Aside.mk (cut_c name n hD1 hle1 ha.s1)
  have H6 := Aside.mk (fuse_any D.b n _ hD1.hb)
  have H7 := Aside.mk (boot_c A5 n5 c5 ha.c5 keeps hD1 hle1 (ha.r5.allocS _) (fun h0 ad e => by
    have h1 := ha.b5 h0 ad e
    have h2 := h.b0
    refine ⟨by omega, by omega, fun f hf => ?_⟩
    have := (h.hf f hf).b0
    omega))
  clear h ha hb1 hD1 hle1
  by_cases k0 : kind = 0
  · subst k0
    go_enter Try.func10, Try.ntmps10
    go_wp2_with fail
    refine HAA.out.mono ?_
    rintro e w2 ⟨code, D', rfl, hD2, hb2, hs⟩
    have HR := Aside.mk (And.intro hD2 (And.intro hb2 hs))
    clear hD2 hb2 hs
    go_wp2
    go_ret
    exact ⟨code, D', rfl, HR.out.1, HB.out.trans HR.out.2.1, HR.out.2.2.1, HR.out.2.2.2.1⟩
  by_cases k1 : kind = 1
  · subst k1
    clear k0
    go_enter Try.func10, Try.ntmps10
    go_wp2_with fail
    refine HAA.out.mono ?_
    rintro e w2 ⟨code, D', rfl, hD2, hb2, hs⟩
    have HR := Aside.mk (And.intro hD2 (And.intro hb2 hs))
    clear hD2 hb2 hs
    go_wp2
    go_ret
    exact ⟨code, D', rfl, HR.out.1, HB.out.trans HR.out.2.1, HR.out.2.2.1, HR.out.2.2.2.1⟩
  by_cases k2 : kind = 2
  · subst k2
    clear k0 k1
    have H2' : Aside (Calls Try.prog 15 #[.pointer (some ⟨D.b, 0, none⟩), .string name] _ (Deed _ base D)) := ⟨H2.out.mono fun e w2 hr => by
      rcases hr with h | ⟨f, _, _, _, h1, h2, h3⟩
      · exact deedNo_deed h
      · exact ⟨0, _, h1, h2, h3, ⟨rfl, rfl, rfl⟩, by decide⟩⟩
    go_enter Try.func10, Try.ntmps10
    go_wp2_with fail
    refine H2'.out.mono ?_
    rintro e w2 hr
    obtain ⟨code, D', rfl, hD2, hb2, hs, h7⟩ := deed_act hr
    have HR := Aside.mk (And.intro hD2 (And.intro hb2 (And.intro hs h7)))
    clear hr hD2 hb2 hs h7
    go_wp2
    go_ret
    exact ⟨code, D', rfl, HR.out.1, HB.out.trans HR.out.2.1, HR.out.2.2.1, HR.out.2.2.2⟩
  by_cases k3 : kind = 3
  · subst k3
    clear k0 k1 k2
    go_enter Try.func10, Try.ntmps10
    go_wp2_with fail
    refine H3.out.mono ?_
    rintro e w2 hr
    obtain ⟨code, D', rfl, hD2, hb2, hs, h7⟩ := deed_act hr
    have HR := Aside.mk (And.intro hD2 (And.intro hb2 (And.intro hs h7)))
    clear hr hD2 hb2 hs h7
    go_wp2
    go_ret
    exact ⟨code, D', rfl, HR.out.1, HB.out.trans HR.out.2.1, HR.out.2.2.1, HR.out.2.2.2⟩
  by_cases k4 : kind = 4
  · subst k4
    clear k0 k1 k2 k3
    go_enter Try.func10, Try.ntmps10
    go_wp2_with fail
    refine H4.out.mono ?_
    rintro e w2 hr
    obtain ⟨code, D', rfl, hD2, hb2, hs, h7⟩ := deed_act hr
    have HR := Aside.mk (And.intro hD2 (And.intro hb2 (And.intro hs h7)))
    clear hr hD2 hb2 hs h7
    go_wp2
    go_ret
    exact ⟨code, D', rfl, HR.out.1, HB.out.trans HR.out.2.1, HR.out.2.2.1, HR.out.2.2.2⟩
  by_cases k5 : kind = 5
  · subst k5
    clear k0 k1 k2 k3 k4
    go_enter Try.func10, Try.ntmps10
    go_wp2_with fail
    refine H5.out.mono ?_
    rintro e w2 hr
    obtain ⟨code, D', rfl, hD2, hb2, hs, h7⟩ := deed_act hr
    have HR := Aside.mk (And.intro hD2 (And.intro hb2 (And.intro hs h7)))
    clear hr hD2 hb2 hs h7
    go_wp2
    go_ret
    exact ⟨code, D', rfl, HR.out.1, HB.out.trans HR.out.2.1, HR.out.2.2.1, HR.out.2.2.2⟩
  by_cases k6 : kind = 6
  · subst k6
    clear k0 k1 k2 k3 k4 k5
    go_enter Try.func10, Try.ntmps10
    go_wp2_with fail
    refine H6.out.mono ?_
    rintro e w2 ⟨rfl, hw2⟩
    have HR := Aside.mk hw2
    clear hw2
    go_wp2
    go_ret
    obtain rfl := HR.out
    exact ⟨0, _, rfl, HD.out.nums D.used (if n < -1 then -1 else n) D.down (disk_set3 HD.out.hb _) (fun k _ _ hk => Below.heap_setCell _ _ _ _ hk) rfl (by have := HA.out.n; split <;> omega), HB.out.trans ((Below.refl _ _).setCell HD.out.b0 _), ⟨rfl, rfl, rfl⟩, fun h => by cases h⟩
  by_cases k7 : kind = 7
  · subst k7
    clear k0 k1 k2 k3 k4 k5 k6
    go_enter Try.func10, Try.ntmps10
    go_wp2_with fail
    refine H7.out.mono ?_
    rintro e w2 ⟨rfl, hb2, l, ks', hD2, _⟩
    have HR := Aside.mk (And.intro hD2 hb2)
    clear hD2 hb2
    go_wp2
    go_ret
    exact ⟨0, _, rfl, HR.out.1, HB.out.trans HR.out.2, ⟨rfl, rfl, rfl⟩, fun h => by cases h⟩
  · have e0 : (kind == 0) = false := by simpa using k0
    have e1 : (kind == 1) = false := by simpa using k1
    have e2 : (kind == 2) = false := by simpa using k2
    have e3 : (kind == 3) = false := by simpa using k3
    have e4 : (kind == 4) = false := by simpa using k4
    have e5 : (kind == 5) = false := by simpa using k5
    have e6 : (kind == 6) = false := by simpa using k6
    have e7 : (kind == 7) = false := by simpa using k7
    clear k0 k1 k2 k3 k4 k5 k6 k7
    go_enter Try.func10, Try.ntmps10
    go_wp2
    go_ret
    exact ⟨0, D, rfl, HD.out, HB.out, ⟨rfl, rfl, rfl⟩, fun h => by cases h⟩
end Go.Proofs.Ytajgimacecjnkaa
