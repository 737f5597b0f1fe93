/- The closures that deed is handed: Sync's, Delete's. -/
import Derived.Test.YtajgimacecjnkaaApp
import Derived.Conc.MuLone
import Derived.RegionTactic
import Derived.ChangeAlike
import Derived.StillTailTactics
set_option linter.unusedSimpArgs false
set_option linter.unusedVariables false
namespace Go.Proofs.Ytajgimacecjnkaa
open Go.RowKit Go.Lib Go.Proofs.YtajgimacecjnkaaW.PrintWords

theorem sync1 {w : World} {base : Nat} {D : Dk} {f : FileE} (h : DiskAt w base D) (hf : f ∈ D.fs) :
    Calls Try.prog 32 #[.pointer (some ⟨f.fb, 0, none⟩)] w fun e w' => e = .returned (.int .i64 0) ∧ DiskAt w' base { D with fs := upd D.fs f.fb f.v f.data f.data.length } ∧ Below base w w' := by
  have H := h.hf f hf
  obtain ⟨A, c, hv, _, _⟩ := H.own.form
  have c0 := (fcells H.hb).c0
  have c1 := (fcells H.hb).c1
  have f1 := (fcells H.hb).f1
  rw [hv] at c0
  have HV := Aside.mk hv
  have HD := Aside.mk h
  have HH := Aside.mk H
  have HF := Aside.mk hf
  clear hv h H hf
  go_enter Try.func32, Try.ntmps32
  go_wp2
  go_ret
  have hfb := HD.out.fb_ne_b HF.out
  refine ⟨rfl, HD.out.upd HF.out f.v f.data f.data.length D.used ?_ (file_set1 HH.out.hb _) ?_ ?_ (.inl rfl) ?_ (by omega) HD.out.le, (Below.refl _ _).setCell HH.out.b0 _⟩
  · exact (Below.heap_setCell _ _ _ _ (Ne.symm hfb)).trans HD.out.hb
  · refine HH.out.own.move fun k e => Below.heap_setCell _ _ _ _ fun e' => ?_
    obtain ⟨cc, hc⟩ := HH.out.own.typed k e
    exact obj_ne hc HH.out.hb (cells_ne (by decide)) e'
  · exact ⟨by omega, Int.le_refl _⟩
  · intro k _ _ _ h2 _
    exact Below.heap_setCell _ _ _ _ h2

theorem remove_none {w : World} {base : Nat} {D : Dk} (name : ByteArray) (h : DiskAt w base D) (hl : look D.fs name = none) :
    Calls Try.prog 35 #[.pointer (some ⟨D.b, 0, none⟩), .string name] w fun e w' => e = .returned (.tuple #[]) ∧ w = w' := by
  have c2 := (dcells h.hb).c2
  have hlk := lookup_run h.hm name
  rw [show lookV D.fs name = .pointer none by rw [lookV, hl]] at hlk
  clear h hl
  go_enter Try.func35, Try.ntmps35
  go_wp2
  go_end0
  exact ⟨rfl, rfl⟩

theorem look_index {fs : List FileE} {name : ByteArray} {f : FileE} (h : look fs name = some f) : ∃ j, (fs.findIdx? fun g => name == g.name) = some j ∧ fs[j]? = some f := by
  rw [look_idx] at h
  cases hj : fs.findIdx? fun g => name == g.name with
  | none => rw [hj] at h; cases h
  | some j => rw [hj] at h; exact ⟨j, rfl, h⟩

set_option maxRecDepth 100000 in
theorem remove_some {w : World} {base : Nat} {D : Dk} (name : ByteArray) (h : DiskAt w base D) (hbase : base ≤ w.heap.size) {f : FileE} (hl : look D.fs name = some f) (j : Nat) (hj : (D.fs.findIdx? fun g => name == g.name) = some j) (hjf : D.fs[j]? = some f) :
    Calls Try.prog 35 #[.pointer (some ⟨D.b, 0, none⟩), .string name] w fun e w' => e = .returned (.tuple #[]) ∧ DiskAt w' base { D with used := D.used - f.data.length, fs := D.fs.eraseIdx j } ∧ Below base w w' ∧ (∀ k, k < w.heap.size → k ≠ D.b → k ≠ D.m → w'.heap[k]? = w.heap[k]?) := by
  have hf := (look_mem hl).1
  have H := h.hf f hf
  obtain ⟨A, c, hv, _, _⟩ := H.own.form
  have c0 := (fcells H.hb).c0
  rw [hv] at c0
  have hlk := lookup_run h.hm name
  rw [show lookV D.fs name = .pointer (some ⟨f.fb, 0, none⟩) by rw [lookV, hl]] at hlk
  have hlen := len_le_sum hf
  have hu := h.used
  have hle := h.le
  have hroom := h.room
  have HD := Aside.mk h
  have HF := Aside.mk hf
  have HJ := Aside.mk hj
  have HJF := Aside.mk hjf
  have hu2 : 0 ≤ D.used - f.data.length := by omega
  have d1 := (dcells h.hb).c1
  have d2 := (dcells h.hb).c2
  have g1 := (dcells h.hb).f1
  clear hv h H hf hl hj hjf hu hlen
  go_enter Try.func35, Try.ntmps35
  have hwr : IntKind.i64.wrap (D.used - (f.data.length : Int)) = D.used - f.data.length := IntWalk.i64_in _ (by omega)
  go_wp2
  go_still_tail 12, (by kernel_rfl)
  change wpList _ _ _ _ _ w.drew
  have HD2 := Aside.mk (HD.out.below (Below.refl _ _).drew)
  have HBB := Aside.mk (show Below w.heap.size w w.drew from (Below.refl _ _).drew)
  have HSZ := Aside.mk (show w.drew.heap = w.heap from rfl)
  clear c0 hlk d1 d2 g1
  clear hwr
  generalize w.drew = W2 at *
  have g1 := (dcells HD2.out.hb).f1
  have d1 := (dcells HD2.out.hb).c1
  have e1 := disk_set1 HD2.out.hb (D.used - f.data.length)
  have d2 := (dcells e1).c2
  have hm2 : (W2.setCell ⟨D.b, 1, none⟩ (.int .i64 (D.used - f.data.length))).heap[D.m]? = _ := (Below.heap_setCell _ _ _ _ HD2.out.m_ne_b).trans HD2.out.hm
  have hdel := fun ty => delete_run hm2 name j HJ.out ty
  have E1 := Aside.mk e1
  have M2 := Aside.mk hm2
  clear e1 hm2
  go_wp2
  go_end0
  have hml : D.m < (W2.setCell ⟨D.b, 1, none⟩ (.int .i64 (D.used - f.data.length))).heap.size := heap_lt M2.out
  have hO : ∀ k, k ≠ D.b → k ≠ D.m → (putMap (W2.setCell ⟨D.b, 1, none⟩ (.int .i64 (D.used - f.data.length))) D.m (D.fs.eraseIdx j) D.clock).heap[k]? = W2.heap[k]? := fun k h1 h2 => (putMap_other _ _ h2).trans (Below.heap_setCell _ _ _ _ h1)
  have hbw : base ≤ W2.heap.size := by rw [HSZ.out]; exact hbase
  refine ⟨rfl, HD2.out.erase j f HJF.out _ ?_ (putMap_same _ _ hml) (fun k _ _ h1 h2 => hO k h1 h2) rfl (by show D.used - (f.data.length : Int) ≤ D.room; omega), ?_, fun k _ h1 h2 => by rw [hO k h1 h2, HSZ.out]⟩
  · exact (putMap_other _ _ (Ne.symm HD2.out.m_ne_b)).trans E1.out
  · exact (((HBB.out.mono hbase).setCell HD2.out.b0 _).grown (putMap_grown _ _ _ _) (by simp [World.setCell]; exact hbw) (fun k e => by cases e; exact HD2.out.m0))
end Go.Proofs.Ytajgimacecjnkaa
