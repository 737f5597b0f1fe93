/- Boot: the walk. -/
import Derived.Test.YtajgimacecjnkaaBootM
import Derived.Deep.LoopGhost
import Derived.Deep.QuietTactic
import Derived.BigQuiet
import Derived.BigRegion
set_option linter.unusedSimpArgs false
set_option linter.unusedVariables false
namespace Go.Proofs.Ytajgimacecjnkaa
open Go.RowKit Go.Lib Go.Proofs.YtajgimacecjnkaaW.PrintWords

theorem reads_cell {w w' : World} {A : Option Addr} {m : Nat} {ks : List Int} (h : ReadsOf (Value.int .i64) 0 w A m ks) (hA : 0 < m → ∀ ad, A = some ad → w'.heap[ad.block]? = w.heap[ad.block]?) : ReadsOf (Value.int .i64) 0 w' A m ks :=
  ⟨h.1, h.2.1, fun h0 => by
    obtain ⟨ad, e, hc⟩ := h.2.2 h0
    refine ⟨ad, e, fun j hj => ?_⟩
    rw [← hc j hj]
    refine World.cell?_of_block (w := w) ?_
    rw [show (Addr.add ad j).block = ad.block by unfold Addr.add; split <;> rfl]
    exact hA h0 ad e⟩

set_option maxRecDepth 100000 in
theorem boot_far {w : World} {base : Nat} {D : Dk} (A : Option Addr) (m c : Nat) (hm0 : m ≤ c) (ks : List Int) (h : DiskAt w base D) (hbase : base ≤ w.heap.size) (HR : ReadsOf (Value.int .i64) 0 w A m ks)
    (hA : 0 < m → ∀ ad, A = some ad → ad.block < w.heap.size ∧ ad.block ≠ D.b ∧ ∀ f ∈ D.fs, ad.block ≠ f.fb) :
    Calls Try.prog 12 #[.pointer (some ⟨D.b, 0, none⟩), .slice A m c] w fun e w' => e = .returned (.tuple #[]) ∧ Below base w w' ∧ (∀ i, i < w.heap.size → i ≠ D.b → (∀ f ∈ D.fs, i ≠ f.fb) → w'.heap[i]? = w.heap[i]?) ∧ ∃ l ks', DiskAt w' base (D.booted l) ∧ (sortN D.fs).foldl bootStep (D.fs, ks) = (l, ks') := by
  have HH := Aside.mk h
  have f3 := (dcells h.hb).f3
  have f4 := (dcells h.hb).f4
  have c2 := (dcells h.hb).c2
  have c3 := (dcells h.hb).c3
  have c4 := (dcells h.hb).c4
  clear h
  go_enter Try.func12, Try.ntmps12
  go_wp2_with fail
  refine (keys_c _ _).mono ?_
  rintro e w1 ⟨rfl, rfl⟩
  have hD1 : DiskAt ((w.setCell ⟨D.b, 4, none⟩ (.bool false)).setCell ⟨D.b, 3, none⟩ (.int .i64 (-1))) base (D.booted D.fs) := by
    have h1 := HH.out.nums D.used (-1) false (w' := (w.setCell ⟨D.b, 4, none⟩ (.bool false)).setCell ⟨D.b, 3, none⟩ (.int .i64 (-1))) (disk_set3 (disk_set4 HH.out.hb _) _) (fun k _ _ hk => (Below.heap_setCell _ _ _ _ hk).trans (Below.heap_setCell _ _ _ _ hk)) rfl (by omega)
    have := HH.out.used
    unfold Dk.booted
    rw [← this]
    exact h1
  have hB1 : Below base w ((w.setCell ⟨D.b, 4, none⟩ (.bool false)).setCell ⟨D.b, 3, none⟩ (.int .i64 (-1))) := ((Below.refl _ _).setCell HH.out.b0 _).setCell HH.out.b0 _
  have hsz : ((w.setCell ⟨D.b, 4, none⟩ (.bool false)).setCell ⟨D.b, 3, none⟩ (.int .i64 (-1))).heap.size = w.heap.size := by simp
  have hR1 : ReadsOf (Value.int .i64) 0 ((w.setCell ⟨D.b, 4, none⟩ (.bool false)).setCell ⟨D.b, 3, none⟩ (.int .i64 (-1))) A m ks := reads_cell HR (fun h0 ad e => (Below.heap_setCell _ _ _ _ (hA h0 ad e).2.1).trans (Below.heap_setCell _ _ _ _ (hA h0 ad e).2.1))
  have hO1 : ∀ i, i ≠ D.b → ((w.setCell ⟨D.b, 4, none⟩ (.bool false)).setCell ⟨D.b, 3, none⟩ (.int .i64 (-1))).heap[i]? = w.heap[i]? := fun i hi => (Below.heap_setCell _ _ _ _ hi).trans (Below.heap_setCell _ _ _ _ hi)
  generalize (w.setCell ⟨D.b, 4, none⟩ (.bool false)).setCell ⟨D.b, 3, none⟩ (.int .i64 (-1)) = W1 at *
  have HO1 := Aside.mk hO1
  clear hO1
  have HS := Aside.mk (sorted_c hD1)
  have HX := Aside.mk (And.intro hD1 (And.intro hB1 (And.intro hsz hR1)))
  have HA := Aside.mk hA
  clear f3 f4 c2 c3 c4 hD1 hB1 hsz hR1 HR hA
  go_wp2_with fail
  refine HS.out.mono ?_
  rintro e w2 ⟨v, rfl, hrow, hb2⟩
  change w2.ownsRow W1.heap.size 9 1 v D.fs.length ((sortN D.fs).map Go.Proofs.encStr) at hrow
  obtain ⟨hxl, hform⟩ := hrow
  have hcl : D.fs.length ≤ 65536 := HH.out.cnt
  obtain ⟨R, cr, rfl, hcr, hRR⟩ := own_reads_of_le (enc := Go.Proofs.encStr) (d := ([] : List UInt8)) (xs := sortN D.fs) ⟨hxl, hform⟩
  have hfar : ∀ ad, R = some ad → 0 < D.fs.length → ad.block ≠ D.b ∧ ∀ f ∈ D.fs, ad.block ≠ f.fb := by
    rintro ad rfl h0
    rcases hform with ⟨_, e⟩ | ⟨g, cap, cur, e, hg, _⟩
    · omega
    · cases e
      obtain ⟨hD1, hB1, hsz, hR1⟩ := HX.out
      have k1 := heap_lt HH.out.hb
      refine ⟨fun e => ?_, fun f hf e => ?_⟩
      · have e : g = D.b := e
        omega
      · have := heap_lt (HH.out.hf f hf).hb
        have e : g = f.fb := e
        omega
  have HRR := Aside.mk (And.intro hRR (And.intro hfar (And.intro hcr hb2)))
  clear hRR hfar hcr hxl hform hb2 HS
  go_wp2_with fail
  go_loopg [1, 25] D.fs.length (fun gk v1 v25 wr => ∃ (j m1 c1 : Nat) (A1 : Option Addr) (ks1 : List Int) (l : List FileE), gk = D.fs.length - j ∧ j ≤ D.fs.length ∧ v25 = .int .i64 j ∧ v1 = .slice A1 m1 c1 ∧ m1 ≤ c1 ∧ Aside (ReadsOf (Value.int .i64) 0 wr A1 m1 ks1 ∧ (0 < m1 → ∀ ad, A1 = some ad → ad.block ≠ D.b ∧ ∀ f ∈ D.fs, ad.block ≠ f.fb) ∧ Bk w2 wr base D (sortN D.fs) j ks ks1 l))
  case atStart =>
    refine ⟨0, m, c, A, ks, D.fs, by omega, by omega, rfl, rfl, hm0, ⟨HX.out.2.2.2.below HRR.out.2.2.2, fun h0 ad e => (HA.out h0 ad e).2, ?_⟩⟩
    exact ⟨HX.out.1.below HRR.out.2.2.2, rfl, rfl, fun _ _ _ => rfl, Below.refl _ _⟩
  case round =>
    obtain ⟨j, m1, c1, A1, ks1, l, rfl, hj, rfl, rfl, hmc, HL⟩ := hrel
    by_cases hlt : j < D.fs.length
    · obtain ⟨nm, f, hgd, hlk, hfl, hnm⟩ := HL.out.2.2.turn hlt
      have hcell : ∃ ad, R = some ad ∧ wr.cell? (ad.add j) = some (.string nm) := by
        obtain ⟨⟨_, _, hr⟩, hfar, _, _⟩ := HRR.out
        obtain ⟨ad, e, hc⟩ := hr (by omega)
        refine ⟨ad, e, ?_⟩
        have hx := hfar ad e (by omega)
        have := hc j hlt
        rw [hgd] at this
        refine Eq.trans (World.cell?_of_block (w := w2) ?_) (this.trans ?_)
        · rw [show (Addr.add ad j).block = ad.block by unfold Addr.add; split <;> rfl]
          exact HL.out.2.2.far _ hx.1 hx.2
        · rw [Go.Proofs.encStr, nm_back]
      obtain ⟨ad, rfl, hcell⟩ := hcell
      have H := HL.out.2.2.at_.hf f hfl
      obtain ⟨Af, cf, hfv, hfc, hcm⟩ := H.own.form
      have c0 := (fcells H.hb).c0
      have c1' := (fcells H.hb).c1
      have f0 := (fcells H.hb).f0
      have f1 := (fcells H.hb).f1
      have d1 := (dcells HL.out.2.2.at_.hb).c1
      have d2 := (dcells HL.out.2.2.at_.hb).c2
      have g1 := (dcells HL.out.2.2.at_.hb).f1
      rw [hfv] at c0
      have hlr := lookup_run HL.out.2.2.at_.hm nm
      have e1 : lookV (D.booted l).fs nm = .pointer (some ⟨f.fb, 0, none⟩) := by show lookV l nm = _; rw [lookV, hlk]
      rw [e1] at hlr
      have HF := Aside.mk (And.intro hfl (And.intro hnm (And.intro H (And.intro hlk hfv))))
      have hs0 := H.sure.1
      have hs1 := H.sure.2
      change wr.cell? ⟨D.b, 1, none⟩ = some (.int .i64 (sumLen l)) at d1
      change wr.cell? ⟨D.b, 2, none⟩ = some (.map (some D.m)) at d2
      change wr.frozen? ⟨D.b, 1, none⟩ = false at g1
      change (Instr.lookup 49 (.map (some D.m)) (.string nm) false).run Try.prog wr = .ok (.pointer (some ⟨f.fb, 0, none⟩)) wr at hlr
      have hfb : f.fb ≠ D.b := HL.out.2.2.at_.fb_ne_b hfl
      clear hlk hfl hnm H hfv e1 hgd
      have hlen : (f.data.length : Int) ≤ 1099511627776 := by
        have := len_le_sum HF.out.1; have := HL.out.2.2.at_.used; have := HL.out.2.2.at_.le; have := HL.out.2.2.at_.room
        have e2 : (D.booted l).used = sumLen l := rfl
        have e3 : (D.booted l).fs = l := rfl
        omega
      have hwr0 : IntKind.i64.wrap ((f.data.length : Int) - f.sure) = (f.data.length : Int) - f.sure := IntWalk.i64_in _ (by omega)
      by_cases hgo : 0 < (f.data.length : Int) - f.sure ∧ 0 < m1
      · have hd0 : decide (0 < (f.data.length : Int) - f.sure) = true := by simp; omega
        have hd1 : decide ((0 : Int) < (m1 : Int)) = true := by simp; omega
        obtain ⟨k0, kst, hks, hk0⟩ : ∃ k0 kst, ks1 = k0 :: kst ∧ ∃ ak, A1 = some ak ∧ wr.cell? ak = some (.int .i64 k0) := by
          obtain ⟨r1, r2, r3⟩ := HL.out.1
          obtain ⟨ak, e, hc⟩ := r3 hgo.2
          cases ks1 with
          | nil => simp at r1; omega
          | cons k0 kst => exact ⟨k0, kst, rfl, ak, e, by have := hc 0 hgo.2; simpa [Addr.add] using this⟩
        obtain ⟨ak, rfl, hk0⟩ := hk0
        obtain ⟨hn1, hn2, hn3⟩ := stays_le ⟨hs0, hs1⟩ k0
        have hm1 := Int.emod_nonneg k0 (show ((f.data.length : Int) - f.sure) + 1 ≠ 0 by omega)
        have hm2 := Int.emod_lt_of_pos k0 (show 0 < ((f.data.length : Int) - f.sure) + 1 by omega)
        have hsl := len_le_sum HF.out.1
        have hsu : sumLen l ≤ 1099511627776 := by
          have := HL.out.2.2.at_.used; have := HL.out.2.2.at_.le; have := HL.out.2.2.at_.room
          have e2 : (D.booted l).used = sumLen l := rfl
          have e3 : (D.booted l).fs = l := rfl
          omega
        have hwr1 : IntKind.i64.wrap ((f.data.length : Int) - f.sure + 1) = (f.data.length : Int) - f.sure + 1 := IntWalk.i64_in _ (by omega)
        have HMO := Aside.mk (fun w => modulo_any k0 ((f.data.length : Int) - f.sure + 1) w (by omega) (by omega))
        generalize k0 % ((f.data.length : Int) - f.sure + 1) = md at *
        have HST := Aside.mk hks
        have HN := Aside.mk hn3
        clear hks hn3
        go_upto_region 6 with fail
        go_quiet (fail)
        have HLN := Aside.mk (HL.out.2.2.drewN nq)
        have HRN := Aside.mk (HL.out.1.drewN nq)
        replace c0 : (wr.drewN nq).cell? _ = _ := c0
        replace c1' : (wr.drewN nq).cell? _ = _ := c1'
        replace f0 : (wr.drewN nq).frozen? _ = _ := f0
        replace f1 : (wr.drewN nq).frozen? _ = _ := f1
        replace d1 : (wr.drewN nq).cell? _ = _ := d1
        replace g1 : (wr.drewN nq).frozen? _ = _ := g1
        replace hk0 : (wr.drewN nq).cell? _ = _ := hk0
        have HAK := Aside.mk HL.out.2.1
        clear HL hlr hcell d2
        generalize wr.drewN nq = W3 at *
        go_wp2_with fail
        refine (HMO.out _).mono ?_
        rintro e w4 ⟨rfl, rfl⟩
        go_upto_region 11 with fail
        have hn3 := HN.out
        generalize (f.data.length : Int) - f.sure - md = gone at *
        rw [← hn3]
        have hn0 : (0 : Int) ≤ (stays f k0 : Int) := by omega
        have hgone : sumLen l - gone = sumLen l - ((f.data.length : Int) - stays f k0) := by omega
        have hwr4 : IntKind.i64.wrap (sumLen l - gone) = sumLen l - gone := IntWalk.i64_in _ (by omega)
        generalize hnn : stays f k0 = n at *
        have HNN := Aside.mk (And.intro hnn hgone)
        have hkc : (n : Int) ≤ (cf : Int) := by omega
        have hkl : (n : Int) ≤ (f.data.length : Int) := by omega
        have hRA := HRN.out.drop_ (c := c1) 1 (by omega) hmc
        have hBA : 0 < m1 - 1 → ∀ ad, (if c1 = 1 then some ak else some ({ block := ak.block, off := ak.off + 1 } : Addr)) = some ad → ad.block ≠ D.b ∧ ∀ f ∈ D.fs, ad.block ≠ f.fb := by
          intro _ ad e
          have := HAK.out hgo.2 ak rfl
          split at e <;> (cases e; exact this)
        change ReadsOf _ _ W3 (if c1 = 1 then some ak else some ({ block := ak.block, off := ak.off + 1 } : Addr)) _ _ at hRA
        generalize (if c1 = 1 then some ak else some ({ block := ak.block, off := ak.off + 1 } : Addr)) = A2 at *
        have HA2 := Aside.mk (And.intro hRA hBA)
        clear hn3 hnn hgone hn2 hm1 hm2 hwr1 hwr0 hd0 hd1 HMO hRA hBA
        go_region
        all_goals go_wp2_with fail
        rw [HST.out] at HLN
        obtain ⟨l', hl'⟩ := HLN.out.cut HF.out.2.2.2.1 HF.out.2.2.2.2 HF.out.2.1 hgo.1 HNN.out.1 HNN.out.2
        go_roundg (D.fs.length - (j + 1))
        case measure => omega
        case rel =>
          refine ⟨j + 1, m1 - 1, c1 - 1, A2, kst, l', rfl, by omega, by go_num, rfl, by omega, ⟨?_, HA2.out.2, hl'⟩⟩
          refine reads_cell (w := W3) ?_ ?_
          · have := HA2.out.1; rw [HST.out] at this; exact this
          · intro h0 ad e
            have := HA2.out.2 h0 ad e
            obtain ⟨g, hg, e', _⟩ := ids_fb HLN.out.ids HF.out.1
            have h2 := this.2 g hg
            rw [e'] at h2
            exact ((Below.heap_setCell _ _ _ _ h2).trans (Below.heap_setCell _ _ _ _ this.1)).trans (Below.heap_setCell _ _ _ _ h2)
      · by_cases ht : 0 < (f.data.length : Int) - f.sure
        · have hd0 : decide (0 < (f.data.length : Int) - f.sure) = true := by simp; omega
          have hd1 : decide ((0 : Int) < (m1 : Int)) = false := by simp; omega
          go_upto_region 6 with fail
          go_quiet (fail)
          have HLN := Aside.mk (HL.out.2.2.drewN nq)
          have HRN := Aside.mk (HL.out.1.drewN nq)
          have HAK := Aside.mk HL.out.2.1
          replace c0 : (wr.drewN nq).cell? _ = _ := c0
          replace c1' : (wr.drewN nq).cell? _ = _ := c1'
          replace f0 : (wr.drewN nq).frozen? _ = _ := f0
          replace f1 : (wr.drewN nq).frozen? _ = _ := f1
          clear HL hlr hcell d2 d1 g1
          generalize wr.drewN nq = W3 at *
          go_wp2_with fail
          obtain ⟨l', hl'⟩ := HLN.out.sured HF.out.2.2.2.1 HF.out.2.1 (by rw [HRN.out.1]; exact hgo)
          go_roundg (D.fs.length - (j + 1))
          case measure => omega
          case rel =>
            refine ⟨j + 1, m1, c1, A1, ks1, l', rfl, by omega, by go_num, rfl, hmc, ⟨?_, HAK.out, hl'⟩⟩
            refine reads_cell (w := W3) HRN.out ?_
            intro h0 ad e
            have := HAK.out h0 ad e
            obtain ⟨g, hg, e', _⟩ := ids_fb HLN.out.ids HF.out.1
            have h2 := this.2 g hg
            rw [e'] at h2
            exact Below.heap_setCell _ _ _ _ h2
        · have hd0 : decide (0 < (f.data.length : Int) - f.sure) = false := by simp; omega
          go_upto_region 6 with fail
          go_quiet (fail)
          have HLN := Aside.mk (HL.out.2.2.drewN nq)
          have HRN := Aside.mk (HL.out.1.drewN nq)
          have HAK := Aside.mk HL.out.2.1
          replace c0 : (wr.drewN nq).cell? _ = _ := c0
          replace c1' : (wr.drewN nq).cell? _ = _ := c1'
          replace f0 : (wr.drewN nq).frozen? _ = _ := f0
          replace f1 : (wr.drewN nq).frozen? _ = _ := f1
          clear HL hlr hcell d2 d1 g1
          generalize wr.drewN nq = W3 at *
          go_wp2_with fail
          obtain ⟨l', hl'⟩ := HLN.out.sured HF.out.2.2.2.1 HF.out.2.1 (by rw [HRN.out.1]; exact hgo)
          go_roundg (D.fs.length - (j + 1))
          case measure => omega
          case rel =>
            refine ⟨j + 1, m1, c1, A1, ks1, l', rfl, by omega, by go_num, rfl, hmc, ⟨?_, HAK.out, hl'⟩⟩
            refine reads_cell (w := W3) HRN.out ?_
            intro h0 ad e
            have := HAK.out h0 ad e
            obtain ⟨g, hg, e', _⟩ := ids_fb HLN.out.ids HF.out.1
            have h2 := this.2 g hg
            rw [e'] at h2
            exact Below.heap_setCell _ _ _ _ h2
    · go_wp2_with fail
      go_end0
      have hjj : j = D.fs.length := by omega
      subst hjj
      obtain ⟨_, _, hk⟩ := HL.out
      obtain ⟨h1, h2, h3, h4⟩ := HX.out
      refine ⟨rfl, (h2.trans (HRR.out.2.2.2.mono (by omega))).trans hk.below, fun i h0 ha hb => ((hk.far i ha hb).trans (HRR.out.2.2.2.block i (by omega))).trans (HO1.out i ha), l, ks1, hk.at_, ?_⟩
      rw [← hk.is, List.take_of_length_le (by rw [sortN_len]; exact Nat.le_refl _)]
theorem boot_c {w : World} {base : Nat} {D : Dk} (A : Option Addr) (m c : Nat) (hm0 : m ≤ c) (ks : List Int) (h : DiskAt w base D) (hbase : base ≤ w.heap.size) (HR : ReadsOf (Value.int .i64) 0 w A m ks)
    (hA : 0 < m → ∀ ad, A = some ad → ad.block < w.heap.size ∧ ad.block ≠ D.b ∧ ∀ f ∈ D.fs, ad.block ≠ f.fb) :
    Calls Try.prog 12 #[.pointer (some ⟨D.b, 0, none⟩), .slice A m c] w fun e w' => e = .returned (.tuple #[]) ∧ Below base w w' ∧ ∃ l ks', DiskAt w' base (D.booted l) ∧ (sortN D.fs).foldl bootStep (D.fs, ks) = (l, ks') :=
  (boot_far A m c hm0 ks h hbase HR hA).mono fun _ _ ⟨a, b, _, d⟩ => ⟨a, b, d⟩
end Go.Proofs.Ytajgimacecjnkaa
