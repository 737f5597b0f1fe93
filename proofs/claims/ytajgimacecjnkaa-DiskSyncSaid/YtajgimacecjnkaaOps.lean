/- How a disk in memory changes: a file of it turns, one comes, one goes; its own numbers turn. -/
import Derived.Test.YtajgimacecjnkaaBase
set_option linter.unusedSimpArgs false
set_option linter.unusedVariables false
namespace Go.Proofs.Ytajgimacecjnkaa
open Go.RowKit Go.Lib Go.Proofs.YtajgimacecjnkaaW.PrintWords

theorem obj_ne {w : World} {i j : Nat} {o p : Obj} (h : w.heap[i]? = some o) (k : w.heap[j]? = some p) (hne : o ≠ p) : i ≠ j := by
  rintro rfl
  rw [h] at k
  exact hne (Option.some.inj k)
theorem cells_ne {c c' : Array Value} {e e' : TypeId} {f f' : Nat × Nat} (h : e ≠ e') : Obj.cells c e f ≠ Obj.cells c' e' f' := fun e1 => by injection e1 with _ e2 _; exact h e2
theorem cells_map_ne {c : Array Value} {e : TypeId} {f : Nat × Nat} {es : Array MapEntry} {k : Nat} : Obj.cells c e f ≠ Obj.map es k := fun e1 => by cases e1

theorem disk_set1 {W : World} {b : Nat} {room used : Int} {m : Nat} {fuse : Int} {down : Bool} (h : W.heap[b]? = some (DiskObj room used m fuse down)) (u : Int) : (W.setCell ⟨b, 1, none⟩ (.int .i64 u)).heap[b]? = some (DiskObj room u m fuse down) := by
  simp [World.setCell, Array.getElem?_modify, h, DiskObj]
theorem disk_set3 {W : World} {b : Nat} {room used : Int} {m : Nat} {fuse : Int} {down : Bool} (h : W.heap[b]? = some (DiskObj room used m fuse down)) (u : Int) : (W.setCell ⟨b, 3, none⟩ (.int .i64 u)).heap[b]? = some (DiskObj room used m u down) := by
  simp [World.setCell, Array.getElem?_modify, h, DiskObj]
theorem disk_set4 {W : World} {b : Nat} {room used : Int} {m : Nat} {fuse : Int} {down : Bool} (h : W.heap[b]? = some (DiskObj room used m fuse down)) (u : Bool) : (W.setCell ⟨b, 4, none⟩ (.bool u)).heap[b]? = some (DiskObj room used m fuse u) := by
  simp [World.setCell, Array.getElem?_modify, h, DiskObj]
theorem file_set0 {W : World} {b : Nat} {v : Value} {s : Int} (h : W.heap[b]? = some (FileObj v s)) (u : Value) : (W.setCell ⟨b, 0, none⟩ u).heap[b]? = some (FileObj u s) := by
  simp [World.setCell, Array.getElem?_modify, h, FileObj]
theorem file_set1 {W : World} {b : Nat} {v : Value} {s : Int} (h : W.heap[b]? = some (FileObj v s)) (u : Int) : (W.setCell ⟨b, 1, none⟩ (.int .i64 u)).heap[b]? = some (FileObj v u) := by
  simp [World.setCell, Array.getElem?_modify, h, FileObj]
section
variable {w w' : World} {base : Nat} {D : Dk}
theorem DiskAt.m_ne_b (h : DiskAt w base D) : D.m ≠ D.b := fun e => obj_ne h.hb h.hm cells_map_ne e.symm
theorem DiskAt.fb_ne_b (h : DiskAt w base D) {f : FileE} (hf : f ∈ D.fs) : f.fb ≠ D.b := obj_ne (h.hf f hf).hb h.hb (cells_ne (by decide))
theorem DiskAt.fb_ne_m (h : DiskAt w base D) {f : FileE} (hf : f ∈ D.fs) : f.fb ≠ D.m := obj_ne (h.hf f hf).hb h.hm cells_map_ne
theorem DiskAt.v_ne {f : FileE} (h : DiskAt w base D) (hf : f ∈ D.fs) {k : Nat} {o : Obj} (hk : w.heap[k]? = some o) (ho : ∀ c, Obj.cells c 5 (0, 0) ≠ o) : some k ≠ f.v.ownBlock := fun e => by
  obtain ⟨c, hc⟩ := (h.hf f hf).own.typed k e.symm
  exact obj_ne hc hk (ho c) rfl
theorem DiskAt.v_ne_b (h : DiskAt w base D) {f : FileE} (hf : f ∈ D.fs) : some D.b ≠ f.v.ownBlock := h.v_ne hf h.hb (fun c => cells_ne (by decide))
theorem DiskAt.v_ne_m (h : DiskAt w base D) {f : FileE} (hf : f ∈ D.fs) : some D.m ≠ f.v.ownBlock := h.v_ne hf h.hm (fun c => cells_map_ne)
theorem DiskAt.v_ne_fb (h : DiskAt w base D) {f g : FileE} (hf : f ∈ D.fs) (hg : g ∈ D.fs) : some g.fb ≠ f.v.ownBlock := h.v_ne hf (h.hf g hg).hb (fun c => cells_ne (by decide))

/-- The disk's own numbers turn. -/
theorem DiskAt.nums (h : DiskAt w base D) (used fuse : Int) (down : Bool) (hb : w'.heap[D.b]? = some (DiskObj D.room used D.m fuse down))
    (hk : ∀ k, base ≤ k → k < w.heap.size → k ≠ D.b → w'.heap[k]? = w.heap[k]?) (hu : used = D.used) (hf : -1 ≤ fuse ∧ fuse ≤ 9223372036854775807) : DiskAt w' base { D with used := used, fuse := fuse, down := down } :=
  { h with
    hb := hb
    hm := (hk _ h.m0 (heap_lt h.hm) h.m_ne_b).trans h.hm
    hf := fun f hf => (h.hf f hf).move (hk _ (h.hf f hf).b0 (heap_lt (h.hf f hf).hb) (h.fb_ne_b hf)) (fun k e => hk _ ((h.hf f hf).own.lt k e).1 ((h.hf f hf).own.lt k e).2 (fun e' => h.v_ne_b hf (by rw [e, e'])))
    used := hu.trans h.used
    le := by show used ≤ D.room; rw [hu]; exact h.le
    fuse := hf }

theorem DiskAt.upd (h : DiskAt w base D) {f : FileE} (hf : f ∈ D.fs) (v : Value) (data : List Int) (sure used : Int)
    (hb : w'.heap[D.b]? = some (DiskObj D.room used D.m D.fuse D.down)) (hfile : w'.heap[f.fb]? = some (FileObj v sure)) (hdata : DataAt w' base v data) (hsure : 0 ≤ sure ∧ sure ≤ data.length)
    (hv : v.ownBlock = f.v.ownBlock ∨ ∃ k, v.ownBlock = some k ∧ w.heap.size ≤ k)
    (hk : ∀ k, base ≤ k → k < w.heap.size → k ≠ D.b → k ≠ f.fb → some k ≠ f.v.ownBlock → w'.heap[k]? = w.heap[k]?)
    (hu : used = D.used - f.data.length + data.length) (hle : used ≤ D.room) : DiskAt w' base { D with used := used, fs := Ytajgimacecjnkaa.upd D.fs f.fb v data sure } where
  hb := hb
  hm := by
    show w'.heap[D.m]? = some (.map ((Ytajgimacecjnkaa.upd D.fs f.fb v data sure).map ent).toArray D.clock)
    rw [upd_ent]
    exact (hk _ h.m0 (heap_lt h.hm) h.m_ne_b (fun e => h.fb_ne_m hf e.symm) (h.v_ne_m hf)).trans h.hm
  hf := fun g hg => by
    obtain ⟨g0, h0, ⟨e0, rfl⟩ | ⟨e0, rfl⟩⟩ := mem_upd hg
    · obtain rfl := nodup_eq h.fbs h0 hf e0
      exact ⟨hfile, (h.hf g0 h0).b0, hdata, hsure⟩
    · have hgf : g ≠ f := fun e => e0 (by rw [e])
      have H := h.hf g h0
      refine H.move (hk _ H.b0 (heap_lt H.hb) (h.fb_ne_b h0) e0 (h.v_ne_fb hf h0)) (fun k e => hk _ (H.own.lt k e).1 (H.own.lt k e).2 (fun e' => h.v_ne_b h0 (by rw [e, e'])) (fun e' => h.v_ne_fb h0 hf (by rw [e, e'])) (fun e' => ?_))
      rcases pair_of h.blks hf h0 (fun e => hgf e.symm) with e1 | e1
      · rw [e1] at e'; cases e'
      · exact e1 (e'.symm.trans e.symm)
  b0 := h.b0
  m0 := h.m0
  fbs := by show ((Ytajgimacecjnkaa.upd D.fs f.fb v data sure).map (·.fb)).Nodup; rw [upd_fbs]; exact h.fbs
  blks := by
    show List.Pairwise _ (List.map _ D.fs)
    rw [List.pairwise_map]
    have hn : D.fs.Pairwise fun a b => a.fb ≠ b.fb := List.pairwise_map.1 h.fbs
    refine (h.blks.and hn).imp_of_mem (fun {a b} ha hb ⟨h1, h2⟩ => ?_)
    by_cases ea : a.fb = f.fb
    · obtain rfl := nodup_eq h.fbs ha hf ea
      have eb : b.fb ≠ a.fb := fun e => h2 e.symm
      rw [if_pos rfl, if_neg eb]
      rcases hv with e | ⟨k, e, hk'⟩
      · show v.ownBlock = none ∨ v.ownBlock ≠ b.v.ownBlock
        rw [e]; exact h1
      · refine .inr fun e' => ?_
        have := ((h.hf b hb).own.lt k (e'.symm.trans e)).2
        omega
    · rw [if_neg ea]
      by_cases eb : b.fb = f.fb
      · obtain rfl := nodup_eq h.fbs hb hf eb
        rw [if_pos rfl]
        rcases hv with e | ⟨k, e, hk'⟩
        · show a.v.ownBlock = none ∨ a.v.ownBlock ≠ v.ownBlock
          rw [e]; exact h1
        · refine .inr fun e' => ?_
          have := ((h.hf a ha).own.lt k (e'.trans e)).2
          omega
      · rw [if_neg eb]; exact h1
  names := by show ((Ytajgimacecjnkaa.upd D.fs f.fb v data sure).map (·.name)).Nodup; rw [upd_names]; exact h.names
  born := fun g hg => by
    obtain ⟨g0, h0, ⟨_, rfl⟩ | ⟨_, rfl⟩⟩ := mem_upd hg
    · exact h.born g0 h0
    · exact h.born g h0
  borns := by show ((Ytajgimacecjnkaa.upd D.fs f.fb v data sure).map (·.born)).Nodup; rw [upd_borns]; exact h.borns
  ok := fun g hg => by
    obtain ⟨g0, h0, ⟨_, rfl⟩ | ⟨_, rfl⟩⟩ := mem_upd hg
    · exact h.ok g0 h0
    · exact h.ok g h0
  used := by show used = sumLen (Ytajgimacecjnkaa.upd D.fs f.fb v data sure); rw [sumLen_upd h.fbs hf, hu, h.used]
  room := h.room
  le := hle
  fuse := h.fuse
  cnt := by show (List.map _ D.fs).length ≤ 65536; rw [List.length_map]; exact h.cnt

theorem look_mem {fs : List FileE} {k : ByteArray} {f : FileE} (h : look fs k = some f) : f ∈ fs ∧ f.name = k := by
  have h1 := List.mem_of_find?_eq_some h
  have h2 := List.find?_some h
  exact ⟨h1, ((MapKept.bytes_beq _ _).1 h2).symm⟩
theorem look_none {fs : List FileE} {k : ByteArray} (h : look fs k = none) : ∀ f ∈ fs, f.name ≠ k := fun f hf e => by
  have := List.find?_eq_none.1 h f hf
  exact this ((MapKept.bytes_beq _ _).2 e.symm)
theorem sumLen_snoc : ∀ (fs : List FileE) (f : FileE), sumLen (fs ++ [f]) = sumLen fs + f.data.length
  | [], f => by simp [sumLen]
  | a :: r, f => by simp [sumLen, sumLen_snoc r f]; omega
/-- A file comes. -/
theorem DiskAt.add (h : DiskAt w base D) (f : FileE) (used : Int) (hb : w'.heap[D.b]? = some (DiskObj D.room used D.m D.fuse D.down)) (hm : w'.heap[D.m]? = some (.map ((D.fs ++ [f]).map ent).toArray (D.clock + 1)))
    (hfile : FileAt w' base f) (hfb : w.heap.size ≤ f.fb) (hv : f.v.ownBlock = none ∨ ∃ k, f.v.ownBlock = some k ∧ w.heap.size ≤ k)
    (hk : ∀ k, base ≤ k → k < w.heap.size → k ≠ D.b → k ≠ D.m → w'.heap[k]? = w.heap[k]?)
    (hlook : look D.fs f.name = none) (hborn : f.born = D.clock) (hok : nameOk f.name = true) (hu : used = D.used + f.data.length) (hle : used ≤ D.room) (hcnt : D.fs.length < 65536) :
    DiskAt w' base { D with used := used, clock := D.clock + 1, fs := D.fs ++ [f] } where
  hb := hb
  hm := hm
  hf := fun g hg => by
    rcases List.mem_append.1 hg with hg | hg
    · have H := h.hf g hg
      exact H.move (hk _ H.b0 (heap_lt H.hb) (h.fb_ne_b hg) (h.fb_ne_m hg)) (fun k e => hk _ (H.own.lt k e).1 (H.own.lt k e).2 (fun e' => h.v_ne_b hg (by rw [e, e'])) (fun e' => h.v_ne_m hg (by rw [e, e'])))
    · rw [List.mem_singleton.1 hg]; exact hfile
  b0 := h.b0
  m0 := h.m0
  fbs := by
    show ((D.fs ++ [f]).map (·.fb)).Nodup
    rw [List.map_append, List.nodup_append]
    refine ⟨h.fbs, by simp, fun a ha b hb e => ?_⟩
    obtain ⟨g, hg, rfl⟩ := List.mem_map.1 ha
    have := heap_lt (h.hf g hg).hb
    simp at hb
    omega
  blks := by
    show (D.fs ++ [f]).Pairwise _
    rw [List.pairwise_append]
    refine ⟨h.blks, by simp, fun a ha b hb => ?_⟩
    rw [List.mem_singleton.1 hb]
    rcases hv with e | ⟨k, e, hk'⟩
    · rw [e]
      by_cases hz : a.v.ownBlock = none
      · exact .inl hz
      · exact .inr hz
    · refine .inr fun e' => ?_
      have := ((h.hf a ha).own.lt k (e'.trans e)).2
      omega
  names := by
    show ((D.fs ++ [f]).map (·.name)).Nodup
    rw [List.map_append, List.nodup_append]
    refine ⟨h.names, by simp, fun a ha b hb e => ?_⟩
    obtain ⟨g, hg, rfl⟩ := List.mem_map.1 ha
    simp at hb
    exact look_none hlook g hg (by rw [e, hb])
  born := fun g hg => by
    rcases List.mem_append.1 hg with hg | hg
    · have := h.born g hg; show g.born < D.clock + 1; omega
    · rw [List.mem_singleton.1 hg, hborn]; exact Nat.lt_succ_self _
  borns := by
    show ((D.fs ++ [f]).map (·.born)).Nodup
    rw [List.map_append, List.nodup_append]
    refine ⟨h.borns, by simp, fun a ha b hb e => ?_⟩
    obtain ⟨g, hg, rfl⟩ := List.mem_map.1 ha
    have := h.born g hg
    simp at hb
    omega
  ok := fun g hg => by
    rcases List.mem_append.1 hg with hg | hg
    · exact h.ok g hg
    · rw [List.mem_singleton.1 hg]; exact hok
  used := by show used = sumLen (D.fs ++ [f]); rw [sumLen_snoc, hu, h.used]
  room := h.room
  le := hle
  fuse := h.fuse
  cnt := by show (D.fs ++ [f]).length ≤ 65536; simp; omega
theorem sumLen_erase : ∀ (fs : List FileE) (j : Nat) (f : FileE), fs[j]? = some f → sumLen (fs.eraseIdx j) = sumLen fs - f.data.length
  | [], j, f, h => by simp at h
  | a :: r, 0, f, h => by simp at h; subst h; simp [sumLen]; omega
  | a :: r, j + 1, f, h => by simp at h; simp [sumLen, sumLen_erase r j f h]; omega
/-- A file goes. -/
theorem DiskAt.erase (h : DiskAt w base D) (j : Nat) (f : FileE) (hj : D.fs[j]? = some f) (used : Int) (hb : w'.heap[D.b]? = some (DiskObj D.room used D.m D.fuse D.down)) (hm : w'.heap[D.m]? = some (.map ((D.fs.eraseIdx j).map ent).toArray D.clock))
    (hk : ∀ k, base ≤ k → k < w.heap.size → k ≠ D.b → k ≠ D.m → w'.heap[k]? = w.heap[k]?)
    (hu : used = D.used - f.data.length) (hle : used ≤ D.room) : DiskAt w' base { D with used := used, fs := D.fs.eraseIdx j } where
  hb := hb
  hm := hm
  hf := fun g hg => by
    have hg := List.mem_of_mem_eraseIdx hg
    have H := h.hf g hg
    exact H.move (hk _ H.b0 (heap_lt H.hb) (h.fb_ne_b hg) (h.fb_ne_m hg)) (fun k e => hk _ (H.own.lt k e).1 (H.own.lt k e).2 (fun e' => h.v_ne_b hg (by rw [e, e'])) (fun e' => h.v_ne_m hg (by rw [e, e'])))
  b0 := h.b0
  m0 := h.m0
  fbs := h.fbs.sublist ((List.eraseIdx_sublist D.fs j).map _)
  blks := h.blks.sublist (List.eraseIdx_sublist D.fs j)
  names := h.names.sublist ((List.eraseIdx_sublist D.fs j).map _)
  born := fun g hg => h.born g (List.mem_of_mem_eraseIdx hg)
  borns := h.borns.sublist ((List.eraseIdx_sublist D.fs j).map _)
  ok := fun g hg => h.ok g (List.mem_of_mem_eraseIdx hg)
  used := by show used = sumLen (D.fs.eraseIdx j); rw [sumLen_erase _ _ _ hj, hu, h.used]
  room := h.room
  le := hle
  fuse := h.fuse
  cnt := Nat.le_trans (List.length_eraseIdx_le D.fs j) h.cnt
end
end Go.Proofs.Ytajgimacecjnkaa
