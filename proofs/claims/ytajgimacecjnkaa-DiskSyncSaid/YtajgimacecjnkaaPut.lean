/- disk.put, each of its ways. -/
import Derived.Test.YtajgimacecjnkaaOps
import Derived.Test.YtajgimacecjnkaaFind
import Derived.Deep.QuietTactic
import Derived.BigQuiet
import Derived.Outline
set_option linter.unusedSimpArgs false
set_option linter.unusedVariables false
namespace Go.Proofs.Ytajgimacecjnkaa
open Go.RowKit Go.Lib Go.Proofs.YtajgimacecjnkaaW.PrintWords

theorem put_name {w : World} {base : Nat} {D : Dk} (name : ByteArray) (bv : Value) (h : DiskAt w base D) (hs : name.size ≤ 9223372036854775807) (hn : nameOk name = false) :
    Calls Try.prog 29 #[.pointer (some ⟨D.b, 0, none⟩), .string name, bv] w fun e w' => e = .returned (.int .i64 1) ∧ Below w.heap.size w w' := by
  have HN := isName_c name w hs
  rw [hn] at HN
  have HN := Aside.mk HN
  have c2 := (dcells h.hb).c2
  have hl := lookup_run h.hm name
  clear h hn
  generalize lookV D.fs name = fv at *
  go_enter Try.func29, Try.ntmps29
  go_wp2_with fail
  refine HN.out.mono ?_
  rintro e w1 ⟨rfl, hb⟩
  have HB := Aside.mk hb
  clear hb
  go_wp2
  go_ret
  exact ⟨rfl, HB.out⟩

theorem put_full {w : World} {base : Nat} {D : Dk} (name : ByteArray) (bv : Value) (h : DiskAt w base D) (hs : name.size ≤ 9223372036854775807) (hn : nameOk name = true) (hk : look D.fs name = none) (hc : D.fs.length = 65536) :
    Calls Try.prog 29 #[.pointer (some ⟨D.b, 0, none⟩), .string name, bv] w fun e w' => e = .returned (.int .i64 12) ∧ Below w.heap.size w w' := by
  have HN := isName_c name w hs
  rw [hn] at HN
  have HN := Aside.mk HN
  have c2 := (dcells h.hb).c2
  have hl := lookup_run h.hm name
  have hv : lookV D.fs name = .pointer none := by rw [lookV, hk]
  rw [hv] at hl
  have HD := Aside.mk h
  have HC := Aside.mk hc
  clear h hn hv hk hc
  go_enter Try.func29, Try.ntmps29
  go_wp2_with fail
  refine HN.out.mono ?_
  rintro e w1 ⟨rfl, hb⟩
  have HB := Aside.mk hb
  have HD1 := Aside.mk (HD.out.below hb)
  clear hb c2 hl
  have c2 := (dcells HD1.out.hb).c2
  have hlen := fun ty => len_run HD1.out.hm ty
  rw [HC.out] at hlen
  go_wp2
  go_ret
  exact ⟨rfl, HB.out⟩

/-- 'the file is new, and there are as many as there may be' -/
def crowded (D : Dk) (name : ByteArray) : Prop := look D.fs name = none ∧ D.fs.length = 65536
set_option maxRecDepth 100000 in
theorem put_big {w : World} {base : Nat} {D : Dk} (name : ByteArray) (A : Option Addr) (m c : Nat) (hm : m ≤ 9223372036854775807) (h : DiskAt w base D) (hs : name.size ≤ 9223372036854775807) (hn : nameOk name = true) (hk : ¬ crowded D name) (hc : D.room - D.used < m) :
    Calls Try.prog 29 #[.pointer (some ⟨D.b, 0, none⟩), .string name, .slice A m c] w fun e w' => e = .returned (.int .i64 7) ∧ Below w.heap.size w w' := by
  have HN := isName_c name w hs
  rw [hn] at HN
  have HN := Aside.mk HN
  have hu := h.used
  have hp := sumLen_nonneg D.fs
  have hr := h.room
  have hle := h.le
  have c2 := (dcells h.hb).c2
  have hl := lookup_run h.hm name
  cases hlk : look D.fs name with
  | none =>
    have hv : lookV D.fs name = .pointer none := by rw [lookV, hlk]
    rw [hv] at hl
    have hcnt : ¬ D.fs.length = 65536 := fun e => hk ⟨hlk, e⟩
    have HD := Aside.mk h
    have hu0 : 0 ≤ D.used := by omega
    clear h hn hv hk hlk hu hp
    go_enter Try.func29, Try.ntmps29
    go_wp2_with fail
    refine HN.out.mono ?_
    rintro e w1 ⟨rfl, hb⟩
    have HB := Aside.mk hb
    have HD1 := Aside.mk (HD.out.below hb)
    clear hb c2 hl
    have c0 := (dcells HD1.out.hb).c0
    have c1 := (dcells HD1.out.hb).c1
    have c2 := (dcells HD1.out.hb).c2
    have hlen := fun ty => len_run HD1.out.hm ty
    have h65 : ((D.fs.length : Int) == 65536) = false := by simp; omega
    go_wp2
    go_quiet (fail)
    go_wp2
    go_ret
    exact ⟨rfl, pw_below_drewN HB.out _⟩
  | some f =>
    have hv : lookV D.fs name = .pointer (some ⟨f.fb, 0, none⟩) := by rw [lookV, hlk]
    rw [hv] at hl
    have HD := Aside.mk h
    have hu0 : 0 ≤ D.used := by omega
    clear h hn hv hk hlk hu hp
    go_enter Try.func29, Try.ntmps29
    go_wp2_with fail
    refine HN.out.mono ?_
    rintro e w1 ⟨rfl, hb⟩
    have HB := Aside.mk hb
    have HD1 := Aside.mk (HD.out.below hb)
    clear hb c2 hl
    have c0 := (dcells HD1.out.hb).c0
    have c1 := (dcells HD1.out.hb).c1
    have c2 := (dcells HD1.out.hb).c2
    go_wp2
    go_quiet (fail)
    go_wp2
    go_ret
    exact ⟨rfl, pw_below_drewN HB.out _⟩

theorem setCell_grown (w : World) (a : Addr) (v : Value) (row : Option Nat) (h : row = some a.block) : w.grownBy (w.setCell a v) row :=
  ⟨rfl, rfl, rfl, by simp [World.setCell], fun k _ hk => Below.heap_setCell _ _ _ _ (fun e => hk (by rw [h, e]))⟩

/-- put behind a file that is there. -/
theorem put_add {w : World} {base : Nat} {D : Dk} (name : ByteArray) (A : Option Addr) (m c : Nat) (ys : List Int) (h : DiskAt w base D) (hbase : base ≤ w.heap.size) (HR : ReadsOf (Value.int .u8) 0 w A m ys) (hs : name.size ≤ 9223372036854775807)
    (hn : nameOk name = true) (f : FileE) (hk : look D.fs name = some f) (hc : (m : Int) ≤ D.room - D.used) :
    Calls Try.prog 29 #[.pointer (some ⟨D.b, 0, none⟩), .string name, .slice A m c] w fun e w' => e = .returned (.int .i64 0) ∧
      ∃ v, DiskAt w' base { D with used := D.used + m, fs := upd D.fs f.fb v (f.data ++ ys) f.sure } ∧ Below base w w' := by
  have HN := isName_c name w hs
  rw [hn] at HN
  have HN := Aside.mk HN
  have hu := h.used
  have hp := sumLen_nonneg D.fs
  have hr := h.room
  have hle := h.le
  have c2 := (dcells h.hb).c2
  have hl := lookup_run h.hm name
  have hv : lookV D.fs name = .pointer (some ⟨f.fb, 0, none⟩) := by rw [lookV, hk]
  rw [hv] at hl
  have HD := Aside.mk h
  have HF := Aside.mk (look_mem hk).1
  have HR := Aside.mk HR
  have hfl : (f.data.length : Int) ≤ D.used := by have := len_le_sum (look_mem hk).1; omega
  have hu0 : 0 ≤ D.used := by omega
  have hm0 : m ≤ 1099511627776 := by omega
  clear h hn hv hk hu hp
  go_enter Try.func29, Try.ntmps29
  go_wp2_with fail
  refine HN.out.mono ?_
  rintro e w1 ⟨rfl, hb⟩
  have HB := Aside.mk hb
  have HD1 := Aside.mk (HD.out.below hb)
  have HR1 := Aside.mk (HR.out.below hb)
  clear hb c2 hl
  have c0 := (dcells HD1.out.hb).c0
  have c1 := (dcells HD1.out.hb).c1
  have c2 := (dcells HD1.out.hb).c2
  have d0 := (fcells (HD1.out.hf f HF.out).hb).c0
  go_wp2
  go_quiet (fail)
  have HB2 := Aside.mk (pw_below_drewN HB.out nq)
  have HD2 := Aside.mk (HD1.out.below (pw_below_drewN (Below.refl _ _) nq))
  have HR2 := Aside.mk (HR1.out.drewN nq)
  clear HB HD1 HR1 c0 c1 c2 d0
  generalize w1.drewN nq = W2 at *
  obtain ⟨v1, w3, hrun, hd3, hg3, hat⟩ := append_data (w := W2) (HD2.out.hf f HF.out).own A m c HR2.out (by have := HB2.out.size; omega) (by omega) 29
  have c1 := (dcells HD2.out.hb).c1
  have d0 := (fcells (HD2.out.hf f HF.out).hb).c0
  obtain ⟨A1, k1, rfl, _, _⟩ := hd3.form
  -- what the append leaves
  have hD3 : w3.heap[D.b]? = some (DiskObj D.room D.used D.m D.fuse D.down) := (hg3.block _ (heap_lt HD2.out.hb) (HD2.out.v_ne_b HF.out)).trans HD2.out.hb
  have hF3 : w3.heap[f.fb]? = some (FileObj f.v f.sure) := (hg3.block _ (heap_lt (HD2.out.hf f HF.out).hb) (HD2.out.v_ne_fb HF.out HF.out)).trans (HD2.out.hf f HF.out).hb
  have e0 := (fcells hF3).c0
  have g0 := (fcells hF3).f0
  have e1 := (dcells hD3).c1
  have g1 := (dcells hD3).f1
  have hne : (⟨f.fb, 0, none⟩ : Addr) ≠ ⟨D.b, 1, none⟩ := by simp
  have HX := Aside.mk hd3
  have HG3 := Aside.mk hg3
  have HAT := Aside.mk hat
  have HD3 := Aside.mk hD3
  have HF3 := Aside.mk hF3
  clear hd3 hg3 hat hD3 hF3
  have HRUN := Aside.mk hrun
  clear hrun
  go_wp2_with (at_builtin; refine wpList_append_run rfl (.tmp 57) (.tmp 58) 29 29 rfl rfl f.v (.slice A m c) _ rfl rfl HRUN.out ?_)
  go_ret
  have hfb := HD2.out.fb_ne_b HF.out
  have e1 := (file_set0 HF3.out (Value.slice A1 (f.data.length + ys.length) k1))
  have e2 : (w3.setCell ⟨f.fb, 0, none⟩ (Value.slice A1 (f.data.length + ys.length) k1)).heap[D.b]? = _ := (Below.heap_setCell _ _ _ _ (Ne.symm hfb)).trans HD3.out
  have hlen : (f.data ++ ys).length = f.data.length + ys.length := by simp
  have hv : (Value.slice A1 (f.data ++ ys).length k1).ownBlock = f.v.ownBlock ∨ ∃ k, (Value.slice A1 (f.data ++ ys).length k1).ownBlock = some k ∧ W2.heap.size ≤ k := by
    rcases HAT.out with h | h
    · exact .inl h
    · exact .inr ⟨_, h, Nat.le_refl _⟩
  have hbw : base ≤ W2.heap.size := by have := HB2.out.size; omega
  refine ⟨rfl, Value.slice A1 (f.data.length + ys.length) k1, HD2.out.upd HF.out _ _ _ _ (disk_set1 e2 _) ?_ ?_ ?_ (by rw [← hlen]; exact hv) ?_ ?_ ?_, ?_⟩
  · exact (Below.heap_setCell _ _ _ _ hfb).trans e1
  · rw [← hlen]
    refine HX.out.move fun k e => ?_
    have hk1 : k ≠ f.fb := fun e' => by
      subst e'
      obtain ⟨c, hc⟩ := HX.out.typed _ e
      exact obj_ne hc HF3.out (cells_ne (by decide)) rfl
    have hk2 : k ≠ D.b := fun e' => by
      subst e'
      obtain ⟨c, hc⟩ := HX.out.typed _ e
      exact obj_ne hc HD3.out (cells_ne (by decide)) rfl
    exact (Below.heap_setCell _ _ _ _ hk2).trans (Below.heap_setCell _ _ _ _ hk1)
  · have := (HD2.out.hf f HF.out).sure
    simp only [List.length_append]; omega
  · intro k hb hlt h1 h2 h3
    exact (Below.heap_setCell _ _ _ _ h1).trans ((Below.heap_setCell _ _ _ _ h2).trans (HG3.out.block k hlt h3))
  · have := HR2.out.1
    simp only [List.length_append]; omega
  · show D.used + (m : Int) ≤ D.room; omega
  · exact (((HB2.out.mono hbase).grown HG3.out hbw (fun k e => ((HD2.out.hf f HF.out).own.lt k e).1)).setCell (HD2.out.hf f HF.out).b0 _).setCell HD2.out.b0 _

theorem cell_map {w w' : World} {m : Nat} {es : Array MapEntry} {c : Nat} (hm : w.heap[m]? = some (.map es c)) (hO : ∀ k, k < w.heap.size → k ≠ m → w'.heap[k]? = w.heap[k]?) {a : Addr} {v : Value} (h : w.cell? a = some v) : w'.cell? a = some v := by
  refine (World.cell?_of_block (w := w) (hO _ (World.block_lt_of_cell? w a h) (fun e => ?_))).trans h
  rw [← e] at hm
  simp [World.cell?, hm] at h
theorem reads_map {w w' : World} {m n : Nat} {es : Array MapEntry} {c : Nat} {A : Option Addr} {ys : List Int} (h : ReadsOf (Value.int .u8) 0 w A n ys) (hm : w.heap[m]? = some (.map es c)) (hO : ∀ k, k < w.heap.size → k ≠ m → w'.heap[k]? = w.heap[k]?) : ReadsOf (Value.int .u8) 0 w' A n ys :=
  ⟨h.1, h.2.1, fun h0 => by
    obtain ⟨ad, e, hc⟩ := h.2.2 h0
    exact ⟨ad, e, fun j hj => cell_map hm hO (hc j hj)⟩⟩

set_option maxRecDepth 100000 in
/-- put makes the file. -/
theorem put_new {w : World} {base : Nat} {D : Dk} (name : ByteArray) (A : Option Addr) (m c : Nat) (ys : List Int) (h : DiskAt w base D) (hbase : base ≤ w.heap.size) (HR : ReadsOf (Value.int .u8) 0 w A m ys) (hs : name.size ≤ 9223372036854775807)
    (hn : nameOk name = true) (hk : look D.fs name = none) (hcnt : D.fs.length < 65536) (hc : (m : Int) ≤ D.room - D.used) :
    Calls Try.prog 29 #[.pointer (some ⟨D.b, 0, none⟩), .string name, .slice A m c] w fun e w' => e = .returned (.int .i64 0) ∧
      ∃ f : FileE, f.name = name ∧ f.data = ys ∧ f.sure = 0 ∧ DiskAt w' base { D with used := D.used + m, clock := D.clock + 1, fs := D.fs ++ [f] } ∧ Below base w w' := by
  have HN := isName_c name w hs
  have HNO := Aside.mk hn
  rw [hn] at HN
  have HN := Aside.mk HN
  have hu := h.used
  have hp := sumLen_nonneg D.fs
  have hr := h.room
  have hle := h.le
  have c2 := (dcells h.hb).c2
  have hl := lookup_run h.hm name
  have hv : lookV D.fs name = .pointer none := by rw [lookV, hk]
  rw [hv] at hl
  have HD := Aside.mk h
  have HR := Aside.mk HR
  have HK := Aside.mk hk
  have hu0 : 0 ≤ D.used := by omega
  have hm0 : m ≤ 1099511627776 := by omega
  clear h hn hv hk hu hp
  go_enter Try.func29, Try.ntmps29
  go_wp2_with fail
  refine HN.out.mono ?_
  rintro e w1 ⟨rfl, hb⟩
  have HB := Aside.mk hb
  have HD1 := Aside.mk (HD.out.below hb)
  have HR1 := Aside.mk (HR.out.below hb)
  clear hb c2 hl
  have c0 := (dcells HD1.out.hb).c0
  have c1 := (dcells HD1.out.hb).c1
  have c2 := (dcells HD1.out.hb).c2
  have hlen := fun ty => len_run HD1.out.hm ty
  have h65 : ((D.fs.length : Int) == 65536) = false := by simp; omega
  go_wp2
  go_quiet (fail)
  have HB2 := Aside.mk (pw_below_drewN HB.out nq)
  have HD2 := Aside.mk (HD1.out.below (pw_below_drewN (Below.refl _ _) nq))
  have HR2 := Aside.mk (HR1.out.drewN nq)
  clear HB HD1 HR1 c0 c1 c2 hlen
  generalize w1.drewN nq = W2 at *
  have hbw : base ≤ W2.heap.size := by have := HB2.out.size; omega
  -- the new file, the map
  have hA : Below W2.heap.size W2 (W2.alloc (.cells #[.slice none 0 0, .int .i64 0] 58)) := below_alloc (Below.refl _ _) _
  have hDa := HD2.out.below hA
  have hFa : (W2.alloc (.cells #[.slice none 0 0, .int .i64 0] 58)).heap[W2.heap.size]? = some (FileObj (.slice none 0 0) 0) := heap_alloc_new W2 _
  obtain ⟨f0, hf0⟩ : ∃ f0 : FileE, f0 = { name := name, fb := W2.heap.size, v := .slice none 0 0, data := [], sure := 0, born := D.clock } := ⟨_, rfl⟩
  have hupd := update_run hDa.hm f0 (by rw [hf0]; exact HK.out) (by rw [hf0])
  rw [show f0.name = name by rw [hf0], show f0.fb = W2.heap.size by rw [hf0]] at hupd
  have hmlt : D.m < (W2.alloc (.cells #[.slice none 0 0, .int .i64 0] 58)).heap.size := heap_lt hDa.hm
  have hmP := putMap_same (w := W2.alloc (.cells #[.slice none 0 0, .int .i64 0] 58)) (D.fs ++ [f0]) (D.clock + 1) hmlt
  have hmO := fun k (hk : k ≠ D.m) => putMap_other (w := W2.alloc (.cells #[.slice none 0 0, .int .i64 0] 58)) (D.fs ++ [f0]) (D.clock + 1) hk
  have hmG := putMap_grown (W2.alloc (.cells #[.slice none 0 0, .int .i64 0] 58)) D.m (D.fs ++ [f0]) (D.clock + 1)
  have hms := putMap_size (W2.alloc (.cells #[.slice none 0 0, .int .i64 0] 58)) D.m (D.fs ++ [f0]) (D.clock + 1)
  generalize putMap (W2.alloc (.cells #[.slice none 0 0, .int .i64 0] 58)) D.m (D.fs ++ [f0]) (D.clock + 1) = W3 at *
  have hsz3 : W3.heap.size = W2.heap.size + 1 := by rw [hms]; simp
  have hFm : W2.heap.size ≠ D.m := by have := heap_lt HD2.out.hm; omega
  have hFb : W2.heap.size ≠ D.b := by have := heap_lt HD2.out.hb; omega
  have hF3 : W3.heap[W2.heap.size]? = some (FileObj (.slice none 0 0) 0) := (hmO _ hFm).trans hFa
  have hD3 : W3.heap[D.b]? = some (DiskObj D.room D.used D.m D.fuse D.down) := (hmO _ (Ne.symm HD2.out.m_ne_b)).trans hDa.hb
  have hO3 : ∀ k, k < W2.heap.size → k ≠ D.m → W3.heap[k]? = W2.heap[k]? := fun k h1 h2 => (hmO k h2).trans (hA.block k h1)
  have HR3 : ReadsOf (Value.int .u8) 0 W3 A m ys := reads_map HR2.out HD2.out.hm hO3
  obtain ⟨v1, w4, hrun, hd4, hg4, hat⟩ := append_data (w := W3) (DataAt.nil W3 base) A m c HR3 (by omega) (by simp; omega) 29
  obtain ⟨A1, k1, rfl, _, _⟩ := hd4.form
  have hg4' : ∀ k, k < W3.heap.size → w4.heap[k]? = W3.heap[k]? := fun k hk => hg4.block k hk (by simp [Value.ownBlock])
  have hD4 : w4.heap[D.b]? = some (DiskObj D.room D.used D.m D.fuse D.down) := (hg4' _ (heap_lt hD3)).trans hD3
  have hF4 : w4.heap[W2.heap.size]? = some (FileObj (.slice none 0 0) 0) := (hg4' _ (heap_lt hF3)).trans hF3
  have c2' := (dcells hDa.hb).c2
  have c0 := (dcells HD2.out.hb).c0
  have a0 := (fcells hF3).c0
  have e0 := (fcells hF4).c0
  have g0 := (fcells hF4).f0
  have e1 := (dcells hD4).c1
  have g1 := (dcells hD4).f1
  have HX := Aside.mk hd4
  have HRUN := Aside.mk hrun
  have HAT := Aside.mk hat
  have HS3 := Aside.mk hsz3
  have HF0 := Aside.mk hf0
  have HD4 := Aside.mk hD4
  have HF4 := Aside.mk hF4
  have HG4 := Aside.mk hg4'
  have HG4a := Aside.mk hg4
  have HM3 := Aside.mk hmP
  have HO3 := Aside.mk hO3
  have HMG := Aside.mk hmG
  clear hd4 hrun hat hsz3 hf0 hD4 hF4 hg4 hg4' hmP hO3 hmO hmG hms hF3 hD3 hFa hDa hA HR3
  go_wp2_with (at_builtin; refine wpList_append_run rfl (.tmp 57) (.tmp 58) 29 29 rfl rfl (.slice none 0 0) (.slice A m c) _ rfl rfl HRUN.out ?_)
  go_ret
  have E1 := (file_set0 HF4.out (Value.slice A1 ys.length k1))
  have E2 : (w4.setCell ⟨W2.heap.size, 0, none⟩ (Value.slice A1 ys.length k1)).heap[D.b]? = _ := (Below.heap_setCell _ _ _ _ (Ne.symm hFb)).trans HD4.out
  have hS3 := HS3.out
  have hold : ∀ k, k < W2.heap.size → k ≠ D.b → ((w4.setCell ⟨W2.heap.size, 0, none⟩ (Value.slice A1 ys.length k1)).setCell ⟨D.b, 1, none⟩ (Value.int .i64 (D.used + m))).heap[k]? = W3.heap[k]? := fun k hk h1 =>
    (Below.heap_setCell _ _ _ _ h1).trans ((Below.heap_setCell _ _ _ _ (show k ≠ W2.heap.size by omega)).trans (HG4.out k (by omega)))
  refine ⟨rfl, { name := name, fb := W2.heap.size, v := Value.slice A1 ys.length k1, data := ys, sure := 0, born := D.clock }, rfl, rfl, rfl, HD2.out.add _ _ (disk_set1 E2 _) ?_ ⟨?_, hbw, ?_, by simp⟩ (Nat.le_refl _) ?_ ?_ HK.out rfl HNO.out ?_ ?_ hcnt, ?_⟩
  · rw [hold _ (heap_lt HD2.out.hm) HD2.out.m_ne_b, HM3.out, HF0.out]
    simp [ent]
  · exact (Below.heap_setCell _ _ _ _ hFb).trans E1
  · refine (HX.out.move fun k e => ?_)
    have hk1 : k ≠ W2.heap.size := fun e' => by
      subst e'
      obtain ⟨c, hc⟩ := HX.out.typed _ e
      exact obj_ne hc HF4.out (cells_ne (by decide)) rfl
    have hk2 : k ≠ D.b := fun e' => by
      subst e'
      obtain ⟨c, hc⟩ := HX.out.typed _ e
      exact obj_ne hc HD4.out (cells_ne (by decide)) rfl
    exact (Below.heap_setCell _ _ _ _ hk2).trans (Below.heap_setCell _ _ _ _ hk1)
  · rcases HAT.out with h | h
    · exact .inl h
    · exact .inr ⟨_, h, by omega⟩
  · intro k hb hlt h1 h2
    exact (hold k hlt h1).trans (HO3.out k hlt h2)
  · have := HR2.out.1
    show D.used + (m : Int) = D.used + (ys.length : Int); omega
  · show D.used + (m : Int) ≤ D.room; omega
  · have B3 : Below base w W3 := ((HB2.out.mono hbase).alloc hbw _).grown HMG.out (by simp; omega) (fun k e => by cases e; exact HD2.out.m0)
    exact ((B3.grown HG4a.out (by omega) (fun k e => by simp [Value.ownBlock] at e)).setCell hbw _).setCell HD2.out.b0 _
end Go.Proofs.Ytajgimacecjnkaa
