/- Same; the document's example. -/
import Derived.Test.YtajgimacecjnkaaBoot
set_option linter.unusedSimpArgs false
set_option linter.unusedVariables false
namespace Go.Proofs.Ytajgimacecjnkaa
open Go.RowKit Go.Lib Go.Proofs.YtajgimacecjnkaaW.PrintWords

set_option maxRecDepth 100000 in
theorem same_q (A0 A1 : Option Addr) (c0 c1 n : Nat) (l : List Int) (w : World) (h0 : ReadsOf (Value.int .u8) 0 w A0 n l) (h1 : ReadsOf (Value.int .u8) 0 w A1 n l) :
    Calls Try.prog 21 #[.slice A0 n c0, .slice A1 n c1] w fun e w' => e = .returned (.bool true) ∧ ∃ m, w' = w.drewN m := by
  have H0 := Aside.mk h0
  have H1 := Aside.mk h1
  have hn := h0.2.1
  clear h0 h1
  go_enter Try.func21, Try.ntmps21
  go_wp2
  go_loopg [5] n (fun gk v5 wr => ∃ j : Nat, gk = n - j ∧ j ≤ n ∧ v5 = .int .i64 j ∧ Aside (∃ m, wr = w.drewN m))
  case atStart => exact ⟨0, by omega, by omega, rfl, ⟨0, rfl⟩⟩
  case round =>
    obtain ⟨j, rfl, hj, rfl, HW⟩ := hrel
    obtain ⟨m, rfl⟩ := HW.out
    by_cases hlt : j < n
    · obtain ⟨ad, rfl, hc⟩ := H0.out.2.2 (by omega)
      obtain ⟨bd, rfl, hd⟩ := H1.out.2.2 (by omega)
      have hcj := hc j hlt
      have hdj := hd j hlt
      clear hc hd HW
      generalize l.getD j 0 = x at *
      replace hcj : (w.drewN m).cell? _ = _ := hcj
      replace hdj : (w.drewN m).cell? _ = _ := hdj
      have HM := Aside.mk (show ∃ m', w.drewN m = w.drewN m' from ⟨m, rfl⟩)
      generalize w.drewN m = W1 at *
      go_upto_region 6 with fail
      go_quiet (fail)
      go_wp2
      go_roundg (n - (j + 1))
      case measure => omega
      case rel =>
        obtain ⟨m', e⟩ := HM.out
        exact ⟨j + 1, rfl, by omega, by go_num, ⟨m' + nq, by rw [e]; simp [World.drewN]; try omega⟩⟩
    · go_wp2
      go_ret
      exact ⟨rfl, m, rfl⟩
theorem same_c (A0 A1 : Option Addr) (c0 c1 n : Nat) (l : List Int) (w : World) (h0 : ReadsOf (Value.int .u8) 0 w A0 n l) (h1 : ReadsOf (Value.int .u8) 0 w A1 n l) :
    Calls Try.prog 21 #[.slice A0 n c0, .slice A1 n c1] w fun e w' => e = .returned (.bool true) ∧ Below w.heap.size w w' :=
  (same_q A0 A1 c0 c1 n l w h0 h1).mono fun _ _ ⟨a, m, b⟩ => ⟨a, by rw [b]; exact pw_below_drewN (Below.refl _ _) _⟩

theorem new_at (w : World) (n : Int) (h0 : 0 ≤ n) (h1 : n ≤ 1099511627776) : DiskAt ((w.alloc (.map #[] 0)).alloc (DiskObj n 0 w.heap.size (-1) false)) w.heap.size ⟨w.heap.size + 1, w.heap.size, n, 0, -1, false, 0, []⟩ where
  hb := by
    have := heap_alloc_new (w.alloc (.map #[] 0)) (DiskObj n 0 w.heap.size (-1) false)
    simpa using this
  hm := by
    show ((w.alloc (.map #[] 0)).alloc _).heap[w.heap.size]? = _
    rw [show ((w.alloc (.map #[] 0)).alloc (DiskObj n 0 w.heap.size (-1) false)).heap[w.heap.size]? = (w.alloc (.map #[] 0)).heap[w.heap.size]? from (below_alloc (Below.refl _ _) _).block _ (by simp)]
    exact heap_alloc_new w _
  hf := fun f hf => by cases hf
  b0 := by show w.heap.size ≤ w.heap.size + 1; omega
  m0 := Nat.le_refl _
  fbs := List.nodup_nil
  blks := List.Pairwise.nil
  names := List.nodup_nil
  born := fun f hf => by cases hf
  borns := List.nodup_nil
  ok := fun f hf => by cases hf
  used := rfl
  room := ⟨h0, h1⟩
  le := h0
  fuse := ⟨by show (-1 : Int) ≤ -1; omega, by show (-1 : Int) ≤ 9223372036854775807; omega⟩
  cnt := Nat.zero_le _
theorem new_below (w : World) (n : Int) : Below w.heap.size w ((w.alloc (.map #[] 0)).alloc (DiskObj n 0 w.heap.size (-1) false)) := below_alloc (below_alloc (Below.refl _ _) _) _

/-- A block just laid reads as its numbers. -/
theorem reads_new (k : IntKind) (w : World) (e : TypeId) (xs : List Int) (hl : xs.length ≤ 9223372036854775807) : ReadsOf (Value.int k) 0 (w.alloc (.cells (xs.map (Value.int k)).toArray e)) (some ⟨w.heap.size, 0, none⟩) xs.length xs :=
  ⟨rfl, hl, fun h => ⟨_, rfl, fun j hj => by
    have e1 : ((⟨w.heap.size, 0, none⟩ : Addr).add j) = ⟨w.heap.size, j, none⟩ := by unfold Addr.add; split <;> simp_all
    rw [e1]
    unfold World.cell?
    rw [heap_alloc_new]
    simp [List.getElem?_eq_getElem hj, List.getD_eq_getElem?_getD, hj]⟩⟩

def sA : ByteArray := ⟨#[97]⟩
theorem sA_ok : nameOk sA = true := by decide +kernel
theorem file_of {fs : List FileE} {name : ByteArray} {data : List Int} {sure : Int} (h : absF fs = [(name, data, sure)]) : ∃ f, fs = [f] ∧ f.name = name ∧ f.data = data ∧ f.sure = sure := by
  match fs, h with
  | [f], h =>
    simp [absF] at h
    exact ⟨f, rfl, h.1, h.2.1, h.2.2⟩
theorem look_one (f : FileE) {name : ByteArray} (h : f.name = name) : look [f] name = some f := by
  exact findIdx_mem (fs := [f]) (by simp) (by simp) h

set_option maxRecDepth 100000 in
theorem awake_c (w : World) : Calls Try.prog 7 #[] w fun e w' => e = .returned (.bool true) ∧ Below w.heap.size w w' := by
  have HN := Aside.mk (new_good 9 w (by omega) (by omega))
  go_enter Try.func7, Try.ntmps7
  go_wp2_with fail
  refine HN.out.mono ?_
  rintro e w1 ⟨rfl, rfl⟩
  have hD := new_at w 9 (by omega) (by omega)
  have HB1 := Aside.mk (new_below w 9)
  have hb : w.heap.size ≤ ((w.alloc (.map #[] 0)).alloc (DiskObj 9 0 w.heap.size (-1) false)).heap.size := (new_below w 9).size
  generalize (w.alloc (.map #[] 0)).alloc (DiskObj 9 0 w.heap.size (-1) false) = w1 at *
  have HD := Aside.mk hD
  clear hD
  go_wp2_with fail
  have hD1 := HD.out.below (below_alloc (Below.refl _ _) (.cells ([1, 2, 3].map (Value.int .u8)).toArray 5))
  have h1 := append_c sA (some ⟨w1.heap.size, 0, none⟩) 3 3 [1, 2, 3] hD1 (by simp; omega) (reads_new .u8 w1 5 [1, 2, 3] (by simp)) (fun ad e _ => by cases e; have := heap_lt HD.out.hb; show w1.heap.size ≠ _; omega) (by decide)
  refine h1.mono ?_
  rintro e w2 ⟨code, D1, rfl, hD2, hb2, hrel⟩
  obtain ⟨rfl, ha1, hu1, hf1, hdn1⟩ := hrel.2.2 rfl rfl sA_ok (by show 0 < 65536; omega) (by show (3 : Int) ≤ 9 - 0; omega)
  have e1 : D1.b = w.heap.size + 1 := hrel.1.b
  have r1 : D1.room = 9 := hrel.1.room
  have ha1' : absF D1.fs = [(sA, [1, 2, 3], 0)] := ha1
  obtain ⟨f1, hfs1, hn1, hd1, hs1⟩ := file_of ha1'
  have hl1 : look D1.fs sA = some f1 := by rw [hfs1]; exact look_one f1 hn1
  have hle : w.heap.size ≤ w2.heap.size := by have := hb2.size; simp at this; omega
  have hsy := sync_c sA hD2 hle (by decide)
  rw [e1] at hsy
  have hbw : Below w.heap.size w w2 := (HB1.out.trans ((below_alloc (Below.refl _ _) _).mono hb)).trans hb2
  have hu1' : D1.used = 3 := by rw [hu1]; rfl
  have X1 := Aside.mk (And.intro hD2 (And.intro ha1' (And.intro hu1' (And.intro hf1 (And.intro hdn1 (And.intro e1 (And.intro r1 (And.intro hfs1 (And.intro hn1 (And.intro hd1 (And.intro hs1 hbw)))))))))))
  have HS := Aside.mk hsy
  clear hrel ha1 ha1' hu1 hu1' hf1 hdn1 e1 r1 hn1 hd1 hs1 hsy hD2 hb2 h1 hD1 hbw HN
  have HL := Aside.mk (And.intro hl1 hfs1)
  clear hl1 hfs1
  go_wp2_with fail
  refine HS.out.mono ?_
  rintro e w3 hr
  obtain ⟨hD2, ha1, hu1, hf1, hdn1, e1, r1, hfs1, hn1, hd1, hs1, hbw⟩ := X1.out
  have hyes : SyncYes w2 w.heap.size D1 f1 e w3 := by
    rcases hr with h | ⟨f, hlf, _, _, h⟩
    · obtain ⟨_, _, _, _, _, _, _, _, _, _, h⟩ := h
      rcases h with h | h | h | h
      · rw [hdn1] at h; cases h
      · rw [hf1] at h; cases h
      · rw [sA_ok] at h; cases h
      · rw [HL.out.1] at h; cases h
    · rw [HL.out.1] at hlf; cases hlf; exact h
  obtain ⟨rfl, hD3, hb3⟩ := hyes
  have hle3 : w.heap.size ≤ w3.heap.size := by have := hb3.size; omega
  have hu3 : upd D1.fs f1.fb f1.v f1.data f1.data.length = [{ f1 with sure := 3 }] := by rw [hfs1]; simp [upd, hd1]
  rw [hf1, hu3] at hD3
  have hbw3 := hbw.trans hb3
  have hD3b := hD3.below (below_alloc (Below.refl _ _) (.cells ([4].map (Value.int .u8)).toArray 5))
  have h3 := append_c sA (some ⟨w3.heap.size, 0, none⟩) 1 1 [4] hD3b (by simp; omega) (reads_new .u8 w3 5 [4] (by simp)) (fun ad e _ => by cases e; have := heap_lt hD3.hb; show w3.heap.size ≠ _; omega) (by decide)
  have hD3b2 : D1.b = w.heap.size + 1 := e1
  change Calls Try.prog 14 #[.pointer (some ⟨D1.b, 0, none⟩), _, _] _ _ at h3
  rw [hD3b2] at h3
  have X3 := Aside.mk (And.intro hD3 hbw3)
  have HA := Aside.mk h3
  clear hD3 hbw3 hD3b h3 hD3b2 hD2 ha1 hu1 hf1 hdn1 e1 r1 hfs1 hn1 hd1 hs1 hbw hr hb3 hu3 HS
  go_wp2_with fail
  refine HA.out.mono ?_
  rintro e w4 ⟨code, D4, rfl, hD4, hb4, hrel⟩
  obtain ⟨hD2, ha1, hu1, hf1, hdn1, e1, r1, hfs1, hn1, hd1, hs1, hbw⟩ := X1.out
  obtain ⟨rfl, ha4, hu4, hf4, hdn4⟩ := hrel.2.2 hdn1 rfl sA_ok (by show 1 < 65536; omega) (by show (1 : Int) ≤ D1.room - D1.used; omega)
  have e4 : D4.b = w.heap.size + 1 := hrel.1.b
  have ha4' : absF D4.fs = [(sA, [1, 2, 3, 4], 3)] := by
    refine ha4.trans ?_
    show putA [(f1.name, f1.data, 3)] sA [4] = _
    rw [hn1, hd1]
    decide +kernel
  obtain ⟨f4, hfs4, hn4, hd4, hs4⟩ := file_of ha4'
  have hle4 : w.heap.size ≤ w4.heap.size := by have := hb4.size; simp at this; omega
  have hbw4 : Below w.heap.size w w4 := (X3.out.2.trans ((below_alloc (Below.refl _ _) _).mono hle3)).trans hb4
  have hbt := boot_c (some ⟨w4.heap.size, 0, none⟩) 1 1 (Nat.le_refl _) [0] (hD4.below (below_alloc (Below.refl _ _) (.cells ([0].map (Value.int .i64)).toArray 3))) (by simp; omega) (reads_new .i64 w4 3 [0] (by simp))
    (fun _ ad e => by
      cases e
      refine ⟨by simp, ?_, fun f hf => ?_⟩
      · have := heap_lt hD4.hb; show w4.heap.size ≠ _; omega
      · have := heap_lt (hD4.hf f hf).hb; show w4.heap.size ≠ _; omega)
  rw [e4] at hbt
  have X4 := Aside.mk (And.intro hD4 (And.intro e4 (And.intro hfs4 (And.intro hn4 (And.intro hd4 (And.intro hs4 (And.intro hle4 hbw4)))))))
  have HB := Aside.mk hbt
  clear hD2 ha1 hu1 hf1 hdn1 e1 r1 hfs1 hn1 hd1 hs1 hbw hD4 e4 hfs4 hn4 hd4 hs4 hle4 hbw4 hbt ha4 ha4' hu4 hf4 hdn4 hrel hb4
  go_wp2_with fail
  refine HB.out.mono ?_
  rintro e w5 ⟨rfl, hb5, l, ks', hD5, hl5⟩
  obtain ⟨hD4, e4, hfs4, hn4, hd4, hs4, hle4, hbw4⟩ := X4.out
  obtain ⟨f5, hf5, hn5, hd5⟩ : ∃ f5, l = [f5] ∧ f5.name = sA ∧ f5.data = [1, 2, 3] := by
    rw [hfs4, show sortN [f4] = [sA.data.toList] by unfold sortN; rw [List.map_singleton, hn4]; exact List.mergeSort_singleton _] at hl5
    have hst : stays f4 0 = 3 := by unfold stays; rw [hd4, hs4]; decide
    have : bootStep ([f4], [0]) sA.data.toList = (upd [f4] f4.fb (cutV f4.v 3) (f4.data.take 3) 3, []) := by
      unfold bootStep
      rw [nm_back]
      show (match look [f4] sA with | none => _ | some f => _) = _
      rw [look_one f4 hn4]
      show (if f4.sure < (f4.data.length : Int) then _ else _) = _
      rw [if_pos (by rw [hs4, hd4]; decide), hst]
      rfl
    have h2 : (l, ks') = (upd [f4] f4.fb (cutV f4.v 3) (f4.data.take 3) 3, []) := hl5.symm.trans this
    cases h2
    refine ⟨{ f4 with v := cutV f4.v 3, data := f4.data.take 3, sure := 3 }, by simp [upd], hn4, ?_⟩
    show f4.data.take 3 = _
    rw [hd4]; rfl
  have hrd := read_c sA hD5 (by decide)
  have e5 : (D4.booted l).b = w.heap.size + 1 := e4
  rw [e5] at hrd
  have hbw5 := hbw4.trans (((below_alloc (Below.refl _ _) _).mono hle4).trans hb5)
  have X5 := Aside.mk (And.intro hbw5 (And.intro hf5 (And.intro hn5 hd5)))
  have HR := Aside.mk hrd
  clear hD4 e4 hfs4 hn4 hd4 hs4 hle4 hbw4 hrd e5 hbw5 hf5 hn5 hd5 hl5 hD5 hb5
  go_wp2_with fail
  refine HR.out.mono ?_
  rintro e w6 ⟨v1, xs, code, rfl, hd6, hb6, hx6⟩
  obtain ⟨hbw5, hf5, hn5, hd5⟩ := X5.out
  obtain ⟨rfl, hxs⟩ := hx6 f5 rfl sA_ok (by show look l sA = _; rw [hf5]; exact look_one f5 hn5)
  rw [hd5] at hxs
  subst hxs
  obtain ⟨A6, c6, rfl, _, hR6⟩ := hd6.reads
  have hle5 : w.heap.size ≤ w5.heap.size := hbw5.size
  have X6 := Aside.mk (And.intro hbw5 (hb6.mono hle5))
  have HSM := Aside.mk (same_c A6 (some ⟨w6.heap.size, 0, none⟩) c6 3 3 [1, 2, 3] _ (hR6.allocS (.cells ([1, 2, 3].map (Value.int .u8)).toArray 5)) (reads_new .u8 w6 5 [1, 2, 3] (by simp)))
  clear hd6 hb6 hx6 hbw5 hf5 hn5 hd5 hR6
  go_wp2_with fail
  refine HSM.out.mono ?_
  rintro e w7 ⟨rfl, hb7⟩
  have X7 := Aside.mk hb7
  clear hb7
  go_wp2
  go_ret
  have hbw6 := X6.out.1.trans X6.out.2
  exact ⟨rfl, hbw6.trans (((below_alloc (Below.refl _ _) _).mono hbw6.size).trans (X7.out.mono (by have := hbw6.size; simp; omega)))⟩
end Go.Proofs.Ytajgimacecjnkaa
