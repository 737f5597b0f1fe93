/- Rename. -/
import Derived.Test.YtajgimacecjnkaaDel
set_option linter.unusedSimpArgs false
set_option linter.unusedVariables false
namespace Go.Proofs.Ytajgimacecjnkaa
open Go.RowKit Go.Lib Go.Proofs.YtajgimacecjnkaaW.PrintWords

theorem erase_perm : ∀ {fs : List FileE} {j : Nat} {f : FileE}, fs[j]? = some f → (f :: fs.eraseIdx j).Perm fs
  | [], j, f, h => by simp at h
  | a :: r, 0, f, h => by simp at h; subst h; exact List.Perm.refl _
  | a :: r, j + 1, f, h => by
    simp at h
    exact (List.Perm.swap a f _).trans ((erase_perm h).cons a)
theorem not_mem_erase {fs : List FileE} {j : Nat} {f : FileE} (hn : (fs.map (·.fb)).Nodup) (hj : fs[j]? = some f) {g : FileE} (hg : g ∈ fs.eraseIdx j) : g.fb ≠ f.fb := by
  have := ((erase_perm hj).map (·.fb)).nodup_iff.2 hn
  simp only [List.map_cons, List.nodup_cons] at this
  exact fun e => this.1 (List.mem_map.2 ⟨g, hg, e⟩)

theorem DiskAt.rename {w w' : World} {base : Nat} {D : Dk} (h : DiskAt w base D) (j : Nat) (f : FileE) (hj : D.fs[j]? = some f) (tgt : ByteArray) (hl : look D.fs tgt = none) (hok : nameOk tgt = true)
    (hm : w'.heap[D.m]? = some (.map ((D.fs.eraseIdx j ++ [{ f with name := tgt, born := D.clock }]).map ent).toArray (D.clock + 1))) (hk : ∀ k, k ≠ D.m → w'.heap[k]? = w.heap[k]?) :
    DiskAt w' base { D with clock := D.clock + 1, fs := D.fs.eraseIdx j ++ [{ f with name := tgt, born := D.clock }] } := by
  have hf : f ∈ D.fs := List.mem_of_getElem? hj
  have hme : ∀ {g}, g ∈ D.fs.eraseIdx j → g ∈ D.fs := fun hg => List.mem_of_mem_eraseIdx hg
  have hmove : ∀ {g}, g ∈ D.fs → FileAt w' base g := fun {g} hg => (h.hf g hg).move (hk _ (h.fb_ne_m hg)) (fun k e => hk _ (fun e' => h.v_ne_m hg (by rw [e, e'])))
  refine { hb := (hk _ (Ne.symm h.m_ne_b)).trans h.hb, hm := hm, hf := ?_, b0 := h.b0, m0 := h.m0, fbs := ?_, blks := ?_, names := ?_, born := ?_, borns := ?_, ok := ?_, used := ?_, room := h.room, le := h.le, fuse := h.fuse, cnt := ?_ }
  · intro g hg
    rcases List.mem_append.1 hg with hg | hg
    · exact hmove (hme hg)
    · rw [List.mem_singleton.1 hg]
      have := hmove hf
      exact ⟨this.hb, this.b0, this.own, this.sure⟩
  · show ((D.fs.eraseIdx j ++ [_]).map FileE.fb).Nodup
    have h1 : (D.fs.eraseIdx j ++ [{ f with name := tgt, born := D.clock }]).map FileE.fb = (D.fs.eraseIdx j ++ [f]).map FileE.fb := by simp
    rw [h1]
    exact ((((List.perm_append_singleton _ _).trans (erase_perm hj)).map (·.fb)).nodup_iff).2 h.fbs
  · show (D.fs.eraseIdx j ++ [_]).Pairwise _
    rw [List.pairwise_append]
    refine ⟨h.blks.sublist (List.eraseIdx_sublist D.fs j), by simp, fun a ha b hb => ?_⟩
    rw [List.mem_singleton.1 hb]
    exact (pair_of h.blks (hme ha) hf (fun e => not_mem_erase h.fbs hj ha (by rw [e])) : a.v.ownBlock = none ∨ a.v.ownBlock ≠ f.v.ownBlock)
  · show ((D.fs.eraseIdx j ++ [_]).map FileE.name).Nodup
    rw [List.map_append, List.nodup_append]
    refine ⟨h.names.sublist ((List.eraseIdx_sublist D.fs j).map _), by simp, fun a ha b hb e => ?_⟩
    obtain ⟨g, hg, rfl⟩ := List.mem_map.1 ha
    simp at hb
    exact look_none hl g (hme hg) (by rw [e, hb])
  · intro g hg
    rcases List.mem_append.1 hg with hg | hg
    · have := h.born g (hme hg); show g.born < D.clock + 1; omega
    · rw [List.mem_singleton.1 hg]; exact Nat.lt_succ_self _
  · show ((D.fs.eraseIdx j ++ [_]).map FileE.born).Nodup
    rw [List.map_append, List.nodup_append]
    refine ⟨h.borns.sublist ((List.eraseIdx_sublist D.fs j).map _), by simp, fun a ha b hb e => ?_⟩
    obtain ⟨g, hg, rfl⟩ := List.mem_map.1 ha
    have := h.born g (hme hg)
    simp at hb
    omega
  · intro g hg
    rcases List.mem_append.1 hg with hg | hg
    · exact h.ok g (hme hg)
    · rw [List.mem_singleton.1 hg]; exact hok
  · show D.used = sumLen (D.fs.eraseIdx j ++ [_])
    rw [sumLen_snoc, sumLen_erase _ _ _ hj, h.used]
    show _ = sumLen D.fs - (f.data.length : Int) + (f.data.length : Int)
    omega
  · show (D.fs.eraseIdx j ++ [_]).length ≤ 65536
    have h1 := h.cnt
    have h2 := (List.getElem?_eq_some_iff.1 hj).1
    rw [List.length_append, List.length_eraseIdx, if_pos h2]
    simp; omega

theorem look_erase {fs : List FileE} {j : Nat} {k : ByteArray} (h : look fs k = none) : look (fs.eraseIdx j) k = none := by
  unfold look at *
  rw [List.find?_eq_none] at *
  exact fun g hg => h g (List.mem_of_mem_eraseIdx hg)
theorem bool_ne {a b : ByteArray} (h : a ≠ b) : (a.toList == b.toList) = false := by
  rw [← beq_toListBytes]; exact Bool.eq_false_iff.2 fun e => h ((MapKept.bytes_beq _ _).1 e)

theorem findIdx_mem {fs : List FileE} {k : ByteArray} {f : FileE} (hn : (fs.map (·.name)).Nodup) (hf : f ∈ fs) (hk : f.name = k) : look fs k = some f := by
  cases hl : look fs k with
  | none => exact absurd hk (look_none hl f hf)
  | some g => rw [name_eq hn (look_mem hl).1 hf (by rw [(look_mem hl).2, hk])]

set_option maxRecDepth 100000 in
/-- The last part of Rename: the old name goes, the new one comes. -/
theorem rename2 {w : World} {base : Nat} {D : Dk} {f : FileE} (src tgt : ByteArray) (h : DiskAt w base D) (hbase : base ≤ w.heap.size) (hl : look D.fs src = some f) (hsz : tgt.size ≤ 9223372036854775807) (hok : nameOk tgt = true) (hne : src ≠ tgt)
    (bt bf bd : Nat) (ht : w.cell? ⟨bt, 0, none⟩ = some (.string tgt)) (hf : w.cell? ⟨bf, 0, none⟩ = some (.string src)) (hd : w.cell? ⟨bd, 0, none⟩ = some (.pointer (some ⟨D.b, 0, none⟩)))
    (hb' : bt ≠ D.b ∧ bf ≠ D.b ∧ bd ≠ D.b) (D2 : Dk) (hS : Same D D2) (hfs : f ∈ D2.fs) (htn : look D2.fs tgt = none) (hl2 : look D2.fs src = some f)
    (hrem : ∀ w1, Below w.heap.size w w1 → Calls Try.prog 35 #[.pointer (some ⟨D.b, 0, none⟩), .string tgt] w1 fun e w' => e = .returned (.tuple #[]) ∧ DiskAt w' base D2 ∧ Below base w1 w' ∧ (∀ k, k < w1.heap.size → k ≠ D.b → k ≠ D.m → w'.heap[k]? = w1.heap[k]?)) :
    Calls Try.prog 33 #[.pointer (some ⟨f.fb, 0, none⟩), .pointer (some ⟨bt, 0, none⟩), .pointer (some ⟨bf, 0, none⟩), .pointer (some ⟨bd, 0, none⟩)] w fun e w' => e = .returned (.int .i64 0) ∧ ∃ D', DiskAt w' base D' ∧ Below base w w' ∧ Same D D' := by
  have hsrc := (look_mem hl).2
  have HN := isName_c tgt w hsz
  rw [hok] at HN
  have HN := Aside.mk HN
  have hneq := bool_ne hne
  obtain ⟨j, hj, hjf⟩ := look_index hl2
  have HJ := Aside.mk hj
  have HJF := Aside.mk hjf
  have HREM := Aside.mk hrem
  have HD := Aside.mk h
  have HT := Aside.mk htn
  have HOK := Aside.mk hok
  have HS := Aside.mk hS
  have hltt := World.block_lt_of_cell? w _ ht
  have hltf := World.block_lt_of_cell? w _ hf
  have hltd := World.block_lt_of_cell? w _ hd
  have hmt : bt ≠ D.m ∧ bf ≠ D.m ∧ bd ≠ D.m := by
    refine ⟨fun e => ?_, fun e => ?_, fun e => ?_⟩
    · rw [e] at ht; simp [World.cell?, h.hm] at ht
    · rw [e] at hf; simp [World.cell?, h.hm] at hf
    · rw [e] at hd; simp [World.cell?, h.hm] at hd
  have HMT := Aside.mk hmt
  have HBT := Aside.mk hb'
  have Hcells := Aside.mk (And.intro ht (And.intro hf hd))
  clear hrem h htn hok hS hj hjf hl hl2 hfs hsrc hmt hb' hne hsz
  go_enter Try.func33, Try.ntmps33
  go_wp2_with fail
  refine HN.out.mono ?_
  rintro e w1 ⟨rfl, hb1⟩
  have HB1 := Aside.mk hb1
  have t1 := hb1.cell (p := ⟨bt, 0, none⟩) hltt
  have s1 := hb1.cell (p := ⟨bf, 0, none⟩) hltf
  have d1 := hb1.cell (p := ⟨bd, 0, none⟩) hltd
  rw [ht] at t1
  rw [hf] at s1
  rw [hd] at d1
  have HR1 := Aside.mk (HREM.out w1 hb1)
  clear hb1 ht hf hd
  go_wp2_with fail
  refine HR1.out.mono ?_
  rintro e w2 ⟨rfl, hD2, hb2, hk2⟩
  have t2 := (World.cell?_of_block (w := w1) (a := ⟨bt, 0, none⟩) (hk2 bt (Nat.lt_of_lt_of_le hltt HB1.out.size) HBT.out.1 HMT.out.1)).trans t1
  have s2 := (World.cell?_of_block (w := w1) (a := ⟨bf, 0, none⟩) (hk2 bf (Nat.lt_of_lt_of_le hltf HB1.out.size) HBT.out.2.1 HMT.out.2.1)).trans s1
  have d2 := (World.cell?_of_block (w := w1) (a := ⟨bd, 0, none⟩) (hk2 bd (Nat.lt_of_lt_of_le hltd HB1.out.size) HBT.out.2.2 HMT.out.2.2)).trans d1
  have HD2 := Aside.mk hD2
  have HB2 := Aside.mk hb2
  clear t1 s1 d1 hb2 hk2
  have c2 := (dcells hD2.hb).c2
  rw [HS.out.b, HS.out.m] at c2
  clear hD2
  go_wp2
  go_still_tail 5, (by kernel_rfl)
  change wpList _ _ _ _ _ w2.drew
  have HD3 := Aside.mk (HD2.out.below (Below.refl _ _).drew)
  have HB3 := Aside.mk (show Below base w w2.drew from ((HB1.out.mono hbase).trans HB2.out).drew)
  have t3 : w2.drew.cell? ⟨bt, 0, none⟩ = some (.string tgt) := t2
  have s3 : w2.drew.cell? ⟨bf, 0, none⟩ = some (.string src) := s2
  have d3 : w2.drew.cell? ⟨bd, 0, none⟩ = some (.pointer (some ⟨D.b, 0, none⟩)) := d2
  have c3 : w2.drew.cell? ⟨D.b, 2, none⟩ = some (.map (some D.m)) := c2
  clear t2 s2 d2 c2 HB2 HD2
  generalize w2.drew = W3 at *
  have hm3 := HD3.out.hm
  rw [HS.out.m] at hm3
  have hdel := fun ty => delete_run hm3 src j HJ.out ty
  have hS4 := putMap_same (w := W3) (D2.fs.eraseIdx j) D2.clock (heap_lt hm3)
  have hO4 := fun k (hk : k ≠ D.m) => putMap_other (w := W3) (D2.fs.eraseIdx j) D2.clock hk
  have hZ4 := putMap_size W3 D.m (D2.fs.eraseIdx j) D2.clock
  have hG4 := putMap_grown W3 D.m (D2.fs.eraseIdx j) D2.clock
  generalize putMap W3 D.m (D2.fs.eraseIdx j) D2.clock = W4 at *
  have t4 := (World.cell?_of_block (w := W3) (a := ⟨bt, 0, none⟩) (hO4 bt HMT.out.1)).trans t3
  have s4 := (World.cell?_of_block (w := W3) (a := ⟨bf, 0, none⟩) (hO4 bf HMT.out.2.1)).trans s3
  have d4 := (World.cell?_of_block (w := W3) (a := ⟨bd, 0, none⟩) (hO4 bd HMT.out.2.2)).trans d3
  have hbm : D.b ≠ D.m := Ne.symm HD.out.m_ne_b
  have c4 := (World.cell?_of_block (w := W3) (a := ⟨D.b, 2, none⟩) (hO4 D.b hbm)).trans c3
  have HO4 := Aside.mk hO4
  have HG4 := Aside.mk hG4
  have HZ4 := Aside.mk hZ4
  have HM3 := Aside.mk hm3
  have HS4 := Aside.mk hS4
  clear hO4 hG4 hZ4 hm3 hS4 hbm
  go_wp2
  go_still_tail 6, (by kernel_rfl)
  change wpList _ _ _ _ _ W4.drew
  obtain ⟨f', hf'⟩ : ∃ f' : FileE, f' = { f with name := tgt, born := D2.clock } := ⟨_, rfl⟩
  have hup := update_run (w := W4.drew) (m := D.m) (fs := D2.fs.eraseIdx j) (c := D2.clock) HS4.out f' (by rw [hf']; exact look_erase HT.out) (by rw [hf'])
  rw [show f'.name = tgt by rw [hf'], show f'.fb = f.fb by rw [hf']] at hup
  have HF' := Aside.mk hf'
  clear hf' t3 s3 d3 c3 hdel
  go_wp2
  go_ret
  have hm5 : D.m < W4.drew.heap.size := heap_lt (show W4.drew.heap[D.m]? = _ from HS4.out)
  refine ⟨rfl, _, HD3.out.rename j f HJF.out tgt HT.out HOK.out ?_ (fun k hk => ?_), ?_, ⟨HS.out.b, HS.out.m, HS.out.room⟩⟩
  · rw [HS.out.m, putMap_same _ _ hm5, HF'.out]
  · rw [HS.out.m] at hk
    exact (putMap_other _ _ hk).trans (HO4.out k hk)
  · have hbw : base ≤ W3.heap.size := by have := HB3.out.size; omega
    have hb4 : base ≤ W4.heap.size := by rw [HZ4.out]; exact hbw
    exact (((HB3.out.grown HG4.out hbw (fun k e => by cases e; exact HD.out.m0))).drew.grown (putMap_grown _ _ _ _) hb4 (fun k e => by cases e; exact HD.out.m0))

theorem erase_gone {fs : List FileE} {k : ByteArray} {j : Nat} {g : FileE} (hn : (fs.map (·.name)).Nodup) (hj : fs[j]? = some g) (hg : g.name = k) : look (fs.eraseIdx j) k = none := by
  cases hl : look (fs.eraseIdx j) k with
  | none => rfl
  | some x =>
    obtain ⟨h1, h2⟩ := look_mem hl
    have := (((erase_perm hj).map FileE.name).nodup_iff).2 hn
    simp only [List.map_cons, List.nodup_cons] at this
    exact absurd (List.mem_map.2 ⟨x, h1, by rw [h2, hg]⟩) this.1
theorem erase_stays {fs : List FileE} {k : ByteArray} {j : Nat} {g f : FileE} (hn : (fs.map (·.name)).Nodup) (hj : fs[j]? = some g) (hl : look fs k = some f) (hg : g.name ≠ k) : look (fs.eraseIdx j) k = some f := by
  obtain ⟨h1, h2⟩ := look_mem hl
  refine findIdx_mem (hn.sublist ((List.eraseIdx_sublist fs j).map _)) ?_ h2
  have := (erase_perm hj).mem_iff.2 h1
  rcases List.mem_cons.1 this with e | e
  · exact absurd (by rw [← e, h2]) hg
  · exact e

set_option maxRecDepth 100000 in
theorem rename1 {w : World} {base : Nat} {D : Dk} {f : FileE} (src tgt : ByteArray) (h : DiskAt w base D) (hbase : base ≤ w.heap.size) (hl : look D.fs src = some f) (hsz : tgt.size ≤ 9223372036854775807)
    (bt bf bd : Nat) (ht : w.cell? ⟨bt, 0, none⟩ = some (.string tgt)) (hf : w.cell? ⟨bf, 0, none⟩ = some (.string src)) (hd : w.cell? ⟨bd, 0, none⟩ = some (.pointer (some ⟨D.b, 0, none⟩)))
    (hb' : bt ≠ D.b ∧ bf ≠ D.b ∧ bd ≠ D.b) :
    Calls Try.prog 33 #[.pointer (some ⟨f.fb, 0, none⟩), .pointer (some ⟨bt, 0, none⟩), .pointer (some ⟨bf, 0, none⟩), .pointer (some ⟨bd, 0, none⟩)] w (Deed w base D) := by
  by_cases hok : nameOk tgt = true
  · by_cases hne : src = tgt
    · have HN := isName_c tgt w hsz
      rw [hok] at HN
      have HN := Aside.mk HN
      have hltt := World.block_lt_of_cell? w _ ht
      have hltf := World.block_lt_of_cell? w _ hf
      have heq : (src.toList == tgt.toList) = true := by rw [hne]; simp
      have HD := Aside.mk h
      clear h hl hok hne hd
      go_enter Try.func33, Try.ntmps33
      go_wp2_with fail
      refine HN.out.mono ?_
      rintro e w1 ⟨rfl, hb1⟩
      have t1 := hb1.cell (p := ⟨bt, 0, none⟩) hltt
      have s1 := hb1.cell (p := ⟨bf, 0, none⟩) hltf
      rw [ht] at t1
      rw [hf] at s1
      have HB1 := Aside.mk hb1
      clear hb1 ht hf
      go_wp2
      go_ret
      exact ⟨0, D, rfl, HD.out.below HB1.out, HB1.out.mono hbase, ⟨rfl, rfl, rfl⟩, by decide⟩
    · cases ht2 : look D.fs tgt with
      | none =>
        refine (rename2 src tgt h hbase hl hsz hok hne bt bf bd ht hf hd hb' D ⟨rfl, rfl, rfl⟩ (look_mem hl).1 ht2 hl (fun w1 hb1 => ?_)).mono fun e w' ⟨he, D', h1, h2, h3⟩ => ⟨0, D', he, h1, h2, h3, by decide⟩
        exact (remove_none tgt (h.below hb1) ht2).mono fun e w' ⟨he, hw⟩ => by subst hw; exact ⟨he, h.below hb1, Below.refl _ _, fun _ _ _ _ => rfl⟩
      | some g =>
        obtain ⟨j, hj, hjf⟩ := look_index ht2
        have hgn := (look_mem ht2).2
        have hl2 := erase_stays h.names hjf hl (by rw [hgn]; exact fun e => hne e.symm)
        refine (rename2 src tgt h hbase hl hsz hok hne bt bf bd ht hf hd hb' { D with used := D.used - g.data.length, fs := D.fs.eraseIdx j } ⟨rfl, rfl, rfl⟩ (look_mem hl2).1 (erase_gone h.names hjf hgn) hl2 (fun w1 hb1 => ?_)).mono fun e w' ⟨he, D', h1, h2, h3⟩ => ⟨0, D', he, h1, h2, h3, by decide⟩
        exact (remove_some tgt (h.below hb1) (Nat.le_trans hbase hb1.size) ht2 j hj hjf)
  · have HN := isName_c tgt w hsz
    rw [show nameOk tgt = false by simpa using hok] at HN
    have HN := Aside.mk HN
    have HD := Aside.mk h
    clear h hl hok hf hd
    go_enter Try.func33, Try.ntmps33
    go_wp2_with fail
    refine HN.out.mono ?_
    rintro e w1 ⟨rfl, hb1⟩
    have HB1 := Aside.mk hb1
    clear hb1
    go_wp2
    go_ret
    exact ⟨1, D, rfl, HD.out.below HB1.out, HB1.out.mono hbase, ⟨rfl, rfl, rfl⟩, by decide⟩

theorem rename_c {w : World} {base : Nat} {D : Dk} (src tgt : ByteArray) (h : DiskAt w base D) (hbase : base ≤ w.heap.size) (hs : src.size ≤ 9223372036854775807) (hs2 : tgt.size ≤ 9223372036854775807) :
    Calls Try.prog 16 #[.pointer (some ⟨D.b, 0, none⟩), .string src, .string tgt] w (Deed w base D) := by
  have hb2 : Below w.heap.size w (((w.alloc (.cells #[.pointer (some ⟨D.b, 0, none⟩)] 25)).alloc (.cells #[.string src] 9)).alloc (.cells #[.string tgt] 9)) := below_alloc (below_alloc (below_alloc (Below.refl _ _) _) _) _
  have hD2 := h.below hb2
  have hlt := heap_lt h.hb
  have c1 : (((w.alloc (.cells #[.pointer (some ⟨D.b, 0, none⟩)] 25)).alloc (.cells #[.string src] 9)).alloc (.cells #[.string tgt] 9)).cell? ⟨w.heap.size, 0, none⟩ = some (.pointer (some ⟨D.b, 0, none⟩)) := by
    exact ((show Below (w.alloc (.cells #[.pointer (some ⟨D.b, 0, none⟩)] 25)).heap.size (w.alloc (.cells #[.pointer (some ⟨D.b, 0, none⟩)] 25)) _ from below_alloc (below_alloc (Below.refl _ _) _) _).cell (p := ⟨w.heap.size, 0, none⟩) (by simp)).trans (by simp)
  have c2 : (((w.alloc (.cells #[.pointer (some ⟨D.b, 0, none⟩)] 25)).alloc (.cells #[.string src] 9)).alloc (.cells #[.string tgt] 9)).cell? ⟨w.heap.size + 1, 0, none⟩ = some (.string src) := by
    exact ((show Below ((w.alloc (.cells #[.pointer (some ⟨D.b, 0, none⟩)] 25)).alloc (.cells #[.string src] 9)).heap.size _ _ from below_alloc (Below.refl _ _) _).cell (p := ⟨w.heap.size + 1, 0, none⟩) (by simp)).trans (by simp)
  have c3 : (((w.alloc (.cells #[.pointer (some ⟨D.b, 0, none⟩)] 25)).alloc (.cells #[.string src] 9)).alloc (.cells #[.string tgt] 9)).cell? ⟨w.heap.size + 1 + 1, 0, none⟩ = some (.string tgt) := by
    have e : w.heap.size + 1 + 1 = ((w.alloc (.cells #[.pointer (some ⟨D.b, 0, none⟩)] 25)).alloc (.cells #[.string src] 9)).heap.size := by simp
    rw [e]; unfold World.cell?; rw [heap_alloc_new]; rfl
  have HC := Aside.mk (deed_c src 33 #[.pointer (some ⟨w.heap.size + 1 + 1, 0, none⟩), .pointer (some ⟨w.heap.size + 1, 0, none⟩), .pointer (some ⟨w.heap.size, 0, none⟩)] (fun _ e w' => Deed w base D e w') hD2 (Nat.le_trans hbase hb2.size) hs enter33 (fun f e w' hr => by obtain ⟨code, D', h1, _⟩ := hr; exact ⟨_, h1⟩) (fun f w2 hl hd hz hD hb hk => by
    have k1 := World.cell?_of_block (a := ⟨w.heap.size, 0, none⟩) (hk w.heap.size (by simp; omega) (by omega))
    have k2 := World.cell?_of_block (a := ⟨w.heap.size + 1, 0, none⟩) (hk (w.heap.size + 1) (by simp) (by omega))
    have k3 := World.cell?_of_block (a := ⟨w.heap.size + 1 + 1, 0, none⟩) (hk (w.heap.size + 1 + 1) (by simp) (by omega))
    have h1 := rename1 src tgt hD (by have := hb.size; simp at this; omega) hl hs2 (w.heap.size + 1 + 1) (w.heap.size + 1) w.heap.size (k3.trans c3) (k2.trans c2) (k1.trans c1) (show _ ≠ D.b ∧ _ ≠ D.b ∧ _ ≠ D.b by omega)
    exact h1.mono fun e w' ⟨code, D', a, b, c, d, h7⟩ => ⟨code, D', a, b, ((hb2.mono hbase).trans hb).trans c, ⟨d.b, d.m, d.room⟩, h7⟩))
  have HBB := Aside.mk hb2
  clear h hb2 hD2 c1 c2 c3
  go_enter Try.func16, Try.ntmps16
  go_wp2_with fail
  refine HC.out.mono ?_
  rintro e w1 hr
  have hr2 : Deed w base D e w1 := by
    rcases hr with hr | ⟨f, _, _, _, hr⟩
    · obtain ⟨code, D', h1, h2, h3, h4, h5⟩ := deedNo_deed hr
      exact ⟨code, D', h1, h2, (HBB.out.mono hbase).trans h3, h4, h5⟩
    · exact hr
  obtain ⟨v, rfl⟩ : ∃ v, e = .returned v := by obtain ⟨code, D', h1, _⟩ := hr2; exact ⟨_, h1⟩
  have HR := Aside.mk hr2
  clear hr hr2
  go_wp2
  go_ret
  exact HR.out
end Go.Proofs.Ytajgimacecjnkaa
