/- Cut. -/
import Derived.Test.YtajgimacecjnkaaDel
import Derived.Deep.QuietTactic
import Derived.BigQuiet
import Derived.BigRegion
import Derived.Test.YtajgimacecjnkaaWMore
set_option linter.unusedSimpArgs false
set_option linter.unusedVariables false
namespace Go.Proofs.Ytajgimacecjnkaa
open Go.RowKit Go.Lib Go.Proofs.YtajgimacecjnkaaW.PrintWords Go.Proofs.YtajgimacecjnkaaW.PrintMore
attribute [local go_sem] min2_int

theorem DataAt.cut {w : World} {base : Nat} {A : Option Addr} {c : Nat} {xs : List Int} (h : DataAt w base (.slice A xs.length c) xs) (n : Nat) (hn : n ≤ xs.length) : DataAt w base (.slice A n n) (xs.take n) := by
  have hl : (xs.take n).length = n := by simp; omega
  refine ⟨?_⟩
  rcases h.out with ⟨e, rfl⟩ | ⟨g, cap, cur, e, hg, hh, h1, h2, h3, hc⟩
  · simp at e hn
    left
    obtain ⟨rfl, rfl⟩ := e
    subst hn
    exact ⟨rfl, rfl⟩
  · right
    simp at e
    obtain ⟨rfl, rfl⟩ := e
    refine ⟨g, n, cur, by rw [hl], hg, hh, by omega, by omega, by omega, fun j hj => ?_⟩
    rw [hl] at hj
    rw [hc j (by omega)]
    simp
theorem cut_own {A : Option Addr} {n m c d : Nat} : (Value.slice A n c).ownBlock = (Value.slice A m d).ownBlock := by cases A <;> rfl

set_option maxRecDepth 100000 in
theorem cut1 {w : World} {base : Nat} {D : Dk} {f : FileE} (n : Int) (h : DiskAt w base D) (hbase : base ≤ w.heap.size) (hf : f ∈ D.fs) (bn bd : Nat) (hn : w.cell? ⟨bn, 0, none⟩ = some (.int .i64 n)) (hd : w.cell? ⟨bd, 0, none⟩ = some (.pointer (some ⟨D.b, 0, none⟩))) (hb' : bn ≠ D.b ∧ bd ≠ D.b ∧ bn ≠ f.fb ∧ bd ≠ f.fb) :
    Calls Try.prog 37 #[.pointer (some ⟨f.fb, 0, none⟩), .pointer (some ⟨bn, 0, none⟩), .pointer (some ⟨bd, 0, none⟩)] w (Deed w base D) := by
  have H := h.hf f hf
  obtain ⟨A, c, hv, hlc, hcm⟩ := H.own.form
  have c0 := (fcells H.hb).c0
  have c1 := (fcells H.hb).c1
  have f0 := (fcells H.hb).f0
  have f1 := (fcells H.hb).f1
  rw [hv] at c0
  have HH := Aside.mk H
  have HD := Aside.mk h
  have HF := Aside.mk hf
  by_cases hneg : n < 0
  · have hd0 : decide (n < 0) = true := by simp [hneg]
    clear h H hf hv
    go_enter Try.func37, Try.ntmps37
    go_wp2
    go_quiet (fail)
    go_wp2
    go_ret
    exact ⟨5, D, rfl, HD.out.below (pw_below_drewN (Below.refl _ _) _), pw_below_drewN (Below.refl _ _) _, ⟨rfl, rfl, rfl⟩, by decide⟩
  · have hd0 : decide (n < 0) = false := by simp; omega
    by_cases hbig : (f.data.length : Int) < n
    · have hd1 : decide ((f.data.length : Int) < n) = true := by simp [hbig]
      clear h H hf hv
      go_enter Try.func37, Try.ntmps37
      go_wp2
      go_quiet (fail)
      go_wp2
      go_ret
      exact ⟨5, D, rfl, HD.out.below (pw_below_drewN (Below.refl _ _) _), pw_below_drewN (Below.refl _ _) _, ⟨rfl, rfl, rfl⟩, by decide⟩
    · have hd1 : decide ((f.data.length : Int) < n) = false := by simp; omega
      obtain ⟨k, rfl⟩ : ∃ k : Nat, n = k := ⟨n.toNat, by omega⟩
      have hu := h.used
      have hlen := len_le_sum hf
      have hle := h.le
      have hroom := h.room
      have hu0 : (f.data.length : Int) ≤ D.used := by omega
      have hwr1 : IntKind.i64.wrap ((f.data.length : Int) - (k : Int)) = (f.data.length : Int) - k := IntWalk.i64_in _ (by omega)
      have hwr2 : IntKind.i64.wrap (D.used - ((f.data.length : Int) - (k : Int))) = D.used - ((f.data.length : Int) - k) := IntWalk.i64_in _ (by omega)
      have u1 := (dcells h.hb).c1
      have v1 := (dcells h.hb).f1
      have HV := Aside.mk hv
      have hdd : Addr.mk D.b 1 none ≠ Addr.mk f.fb 0 none := by simp
      clear h H hf hv hu hlen
      go_enter Try.func37, Try.ntmps37
      go_wp2
      go_quiet (fail)
      go_wp2
      have HW := Aside.mk (show Below w.heap.size w (w.drewN nq) from pw_below_drewN (Below.refl _ _) _)
      have HD1 := Aside.mk (HD.out.below HW.out)
      replace c0 : (w.drewN nq).cell? _ = _ := c0
      replace c1 : (w.drewN nq).cell? _ = _ := c1
      replace f0 : (w.drewN nq).frozen? _ = _ := f0
      replace f1 : (w.drewN nq).frozen? _ = _ := f1
      replace u1 : (w.drewN nq).cell? _ = _ := u1
      replace v1 : (w.drewN nq).frozen? _ = _ := v1
      replace hn : (w.drewN nq).cell? _ = _ := hn
      replace hd : (w.drewN nq).cell? _ = _ := hd
      clear HD HH
      generalize w.drewN nq = W1 at *
      go_still_tail 14, (by kernel_rfl)
      change wpList _ _ _ _ _ W1.drew
      have hfb := HD1.out.fb_ne_b HF.out
      replace u1 : W1.drew.cell? _ = _ := u1
      replace v1 : W1.drew.frozen? _ = _ := v1
      have hO2 : ∀ j, j ≠ D.b → (W1.setCell ⟨D.b, 1, none⟩ (.int .i64 (D.used - ((f.data.length : Int) - k)))).heap[j]? = W1.heap[j]? := fun j hj => Below.heap_setCell _ _ _ _ hj
      have c0' := (World.cell?_of_block (w := W1) (a := ⟨f.fb, 0, none⟩) (hO2 _ hfb)).trans c0
      have c1' := (World.cell?_of_block (w := W1) (a := ⟨f.fb, 1, none⟩) (hO2 _ hfb)).trans c1
      have f0' := (World.frozen?_of_block (w := W1) (a := ⟨f.fb, 0, none⟩) (hO2 _ hfb)).trans f0
      have f1' := (World.frozen?_of_block (w := W1) (a := ⟨f.fb, 1, none⟩) (hO2 _ hfb)).trans f1
      have hn' := (World.cell?_of_block (w := W1) (a := ⟨bn, 0, none⟩) (hO2 _ hb'.1)).trans hn
      have HB2 := Aside.mk (show Below base w (W1.setCell ⟨D.b, 1, none⟩ (.int .i64 (D.used - ((f.data.length : Int) - k)))) from (HW.out.mono hbase).setCell HD1.out.b0 _)
      have E1 := Aside.mk (show (W1.setCell ⟨D.b, 1, none⟩ (.int .i64 (D.used - ((f.data.length : Int) - k)))).heap[D.b]? = _ from disk_set1 HD1.out.hb _)
      have HO2 := Aside.mk hO2
      clear c0 c1 f0 f1 hn hd hO2 hwr1 hwr2
      go_wp2
      generalize W1.setCell ⟨D.b, 1, none⟩ (.int .i64 (D.used - ((f.data.length : Int) - k))) = W2 at *
      have hsure := (HD1.out.hf f HF.out).sure
      have hkc : (k : Int) ≤ (c : Int) := by omega
      have hkl : (k : Int) ≤ (f.data.length : Int) := by omega
      go_region
      have hsv : 0 ≤ (if (k : Int) < f.sure then (k : Int) else f.sure) ∧ (if (k : Int) < f.sure then (k : Int) else f.sure) ≤ k := by split <;> omega
      generalize (if (k : Int) < f.sure then (k : Int) else f.sure) = sv at *
      obtain ⟨hsv0, hsv1⟩ := hsv
      go_wp2
      go_ret
      have E2 : W2.heap[f.fb]? = some (FileObj f.v f.sure) := (HO2.out _ hfb).trans (HD1.out.hf f HF.out).hb
      have E3 := file_set1 (file_set0 E2 (.slice A k k)) sv
      have hOth : ∀ j, j ≠ f.fb → ((W2.setCell ⟨f.fb, 0, none⟩ (.slice A k k)).setCell ⟨f.fb, 1, none⟩ (.int .i64 sv)).heap[j]? = W2.heap[j]? := fun j hj => (Below.heap_setCell _ _ _ _ hj).trans (Below.heap_setCell _ _ _ _ hj)
      have hcut : DataAt W1 base (.slice A k k) (f.data.take k) := DataAt.cut (c := c) (by rw [← HV.out]; exact (HD1.out.hf f HF.out).own) k (by omega)
      have hown : (Value.slice A k k).ownBlock = f.v.ownBlock := by rw [HV.out]; exact cut_own
      have hlen : (f.data.take k).length = k := by simp; omega
      refine ⟨0, _, rfl, HD1.out.upd HF.out (.slice A k k) (f.data.take k) sv (D.used - ((f.data.length : Int) - k)) ?_ E3 ?_ ?_ (.inl hown) ?_ ?_ ?_, ?_, ⟨rfl, rfl, rfl⟩, by decide⟩
      · exact (hOth _ (Ne.symm hfb)).trans E1.out
      · refine hcut.move fun j e => ?_
        have h1 : j ≠ f.fb := fun e' => by
          obtain ⟨cc, hcc⟩ := hcut.typed _ e
          exact obj_ne hcc (HD1.out.hf f HF.out).hb (cells_ne (by decide)) e'
        have h2 : j ≠ D.b := fun e' => by
          obtain ⟨cc, hcc⟩ := hcut.typed _ e
          exact obj_ne hcc HD1.out.hb (cells_ne (by decide)) e'
        exact (hOth _ h1).trans (HO2.out _ h2)
      · rw [hlen]; exact ⟨hsv0, hsv1⟩
      · intro j _ _ h1 h2 _
        exact (hOth _ h2).trans (HO2.out _ h1)
      · rw [hlen]; omega
      · show D.used - ((f.data.length : Int) - k) ≤ D.room; omega
      · exact (((HB2.out.setCell (HD1.out.hf f HF.out).b0 _).setCell (HD1.out.hf f HF.out).b0 _).drew).drew

theorem cut_c {w : World} {base : Nat} {D : Dk} (name : ByteArray) (n : Int) (h : DiskAt w base D) (hbase : base ≤ w.heap.size) (hs : name.size ≤ 9223372036854775807) :
    Calls Try.prog 18 #[.pointer (some ⟨D.b, 0, none⟩), .string name, .int .i64 n] w (Deed w base D) := by
  have hb2 : Below w.heap.size w ((w.alloc (.cells #[.pointer (some ⟨D.b, 0, none⟩)] 25)).alloc (.cells #[.int .i64 n] 3)) := below_alloc (below_alloc (Below.refl _ _) _) _
  have hD2 := h.below hb2
  have hlt := heap_lt h.hb
  have c1 : ((w.alloc (.cells #[.pointer (some ⟨D.b, 0, none⟩)] 25)).alloc (.cells #[.int .i64 n] 3)).cell? ⟨w.heap.size, 0, none⟩ = some (.pointer (some ⟨D.b, 0, none⟩)) := by simp
  have c2 : ((w.alloc (.cells #[.pointer (some ⟨D.b, 0, none⟩)] 25)).alloc (.cells #[.int .i64 n] 3)).cell? ⟨w.heap.size + 1, 0, none⟩ = some (.int .i64 n) := by simp
  have HC := Aside.mk (deed_c name 37 #[.pointer (some ⟨w.heap.size + 1, 0, none⟩), .pointer (some ⟨w.heap.size, 0, none⟩)] (fun _ e w' => Deed w base D e w') hD2 (Nat.le_trans hbase hb2.size) hs enter37 (fun f e w' hr => by obtain ⟨code, D', h1, _⟩ := hr; exact ⟨_, h1⟩) (fun f w2 hl hd hz hD hb hk => by
    have k1 := World.cell?_of_block (a := ⟨w.heap.size, 0, none⟩) (hk w.heap.size (by simp; omega) (by omega))
    have k2 := World.cell?_of_block (a := ⟨w.heap.size + 1, 0, none⟩) (hk (w.heap.size + 1) (by simp) (by omega))
    have hfl := heap_lt (h.hf f (look_mem hl).1).hb
    have h1 := cut1 n hD (by have := hb.size; simp at this; omega) (look_mem hl).1 (w.heap.size + 1) w.heap.size (k2.trans c2) (k1.trans c1) (show _ ≠ D.b ∧ _ ≠ D.b ∧ _ ∧ _ by omega)
    exact h1.mono fun e w' ⟨code, D', a, b, c, d, h7⟩ => ⟨code, D', a, b, ((hb2.mono hbase).trans hb).trans c, ⟨d.b, d.m, d.room⟩, h7⟩))
  have HBB := Aside.mk hb2
  clear h hb2 hD2 c1 c2
  go_enter Try.func18, Try.ntmps18
  go_wp2_with fail
  refine HC.out.mono ?_
  rintro e w1 hr
  have hr2 : Deed w base D e w1 := by
    rcases hr with hr | ⟨f, _, _, _, hr⟩
    · obtain ⟨code, D', h1, h2, h3, h4, h5⟩ := deedNo_deed hr
      exact ⟨code, D', h1, h2, (HBB.out.mono hbase).trans h3, h4, h5⟩
    · exact hr
  obtain ⟨v, rfl⟩ : ∃ v, e = .returned v := by obtain ⟨code, D', h1, _⟩ := hr2; exact ⟨_, h1⟩
  have HR := Aside.mk hr2
  clear hr hr2
  go_wp2
  go_ret
  exact HR.out
end Go.Proofs.Ytajgimacecjnkaa
