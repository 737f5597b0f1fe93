/- Names. -/
import Derived.Test.YtajgimacecjnkaaNil
import Derived.Test.YtajgimacecjnkaaIter
set_option linter.unusedSimpArgs false
set_option linter.unusedVariables false
namespace Go.Proofs.Ytajgimacecjnkaa
open Go.RowKit Go.Lib Go.Proofs.YtajgimacecjnkaaW.PrintWords Go.WideShapes

def sortN (fs : List FileE) : List (List UInt8) := (fs.map fun f => f.name.data.toList).mergeSort (fun x y => decide (x ≤ y))
noncomputable def mapD (fs : List FileE) : DataW Unit := .map (((fs.map ent).map (WideElems.rg Try.prog 9 (fun _ => some (.nil, [])))).foldr DataW.insert [])

theorem nameOk_size {s : ByteArray} (h : nameOk s = true) : 1 ≤ s.size ∧ s.size ≤ 32 := by
  unfold nameOk at h
  simp only [Bool.and_eq_true, decide_eq_true_eq] at h
  exact h.2
theorem key_run {f : FileE} (h : nameOk f.name = true) : keyOf Try.prog 9 (.string f.name) = some (.string f.name.data.toList) := by
  have h1 := nameOk_size h
  have h2 : f.name.data.size ≤ maxLen := by have : f.name.data.size = f.name.size := rfl; unfold maxLen; omega
  simp [keyOf, mapKey, Try.underlying9, h2]
  try exact h2
theorem rd_run {f : FileE} (h : nameOk f.name = true) : WideElems.rd (H := Unit) Try.prog 9 (fun _ => some (.nil, [])) (ent f) = some (.string f.name.data.toList, .nil) := by
  simp [WideElems.rd, ent, key_run h]
theorem rg_run {f : FileE} (h : nameOk f.name = true) : WideElems.rg (H := Unit) Try.prog 9 (fun _ => some (.nil, [])) (ent f) = (.string f.name.data.toList, .nil) := WideElems.rg_of (rd_run h)
theorem keys_perm {fs : List FileE} (h : ∀ f ∈ fs, nameOk f.name = true) : (Go.strKeys (mapD fs)).Perm (fs.map fun f => f.name.data.toList) := by
  unfold mapD
  show (List.map _ _).Perm _
  refine ((sorted_perm _).map _).trans ?_
  rw [List.map_map, List.map_map]
  refine List.Perm.of_eq (List.map_congr_left fun f hf => ?_)
  show Go.strOf (WideElems.rg Try.prog 9 _ (ent f)).1 = _
  rw [rg_run (h f hf)]
  rfl
theorem mapD_size (fs : List FileE) : Maps.size (mapD fs) = fs.length := by
  unfold mapD
  rw [Maps.size_eq, (sorted_perm _).length_eq]
  simp
theorem DiskAt.owns {w : World} {base : Nat} {D : Dk} (h : DiskAt w base D) : w.ownsMap Try.prog 9 (fun _ => some (.nil, [])) D.m D.fs.length (mapD D.fs) := by
  refine ⟨_, _, h.hm, ⟨?_, ⟨?_, ?_, ?_⟩, ?_⟩, by simp, rfl⟩
  · have := h.cnt; simp [maxLen]; omega
  · intro x hx
    obtain ⟨f, hf, rfl⟩ := List.mem_map.1 hx
    exact h.born f hf
  · rw [show ((D.fs.map ent).toArray).toList = D.fs.map ent from rfl, List.map_map]; exact h.borns
  · rw [show ((D.fs.map ent).toArray).toList = D.fs.map ent from rfl, List.map_map]
    have := h.names
    rw [List.nodup_iff_pairwise_ne, List.pairwise_map] at this ⊢
    exact this.imp fun {a b} hab e => hab (by simpa [ent] using e)
  · intro x hx
    obtain ⟨f, hf, rfl⟩ := List.mem_map.1 hx
    exact ⟨_, rd_run (h.ok f hf)⟩

/-- slices.Sorted(maps.Keys(d.files)). -/
theorem sorted_c {w : World} {base : Nat} {D : Dk} (h : DiskAt w base D) :
    Calls Try.prog 23 #[.func (.func 40) #[] #[.pointer (some ⟨w.heap.size, 0, none⟩)]] (w.alloc (.cells #[.map (some D.m)] 49)) fun e w' => ∃ v, e = .returned v ∧ w'.ownsRow w.heap.size 9 1 v D.fs.length ((sortN D.fs).map Go.Proofs.encStr) ∧ Below w.heap.size w w' := by
  refine (callsIn_wide.1 (Try.slices_Sorted_keys_23_24 D.m D.fs.length (mapD D.fs) _ w h.owns (by rw [mapD_size]; have := h.cnt; simp [maxLen]; omega) (by rw [mapD_size]; have := h.cnt; omega))).mono ?_
  rintro e w' ⟨v, ss, he, hp, hrow, _, hb⟩
  have hp' := hp.trans (keys_perm h.ok)
  have hl : ss.length = D.fs.length := by rw [hp'.length_eq]; simp
  have e1 := Go.mergeSort_of_perm hp'
  refine ⟨v, he, ?_, (below_alloc (Below.refl _ _) _).trans (hb.mono (by simp))⟩
  have e2 : sortN D.fs = ss.mergeSort (fun x y => decide (x ≤ y)) := e1.symm
  rw [e2, ← hl]
  refine ⟨hrow.1, hrow.2.imp id ?_⟩
  rintro ⟨g, cap, cur, a, b, r⟩
  exact ⟨g, cap, cur, a, by simp at b; omega, r⟩

theorem keys_c (w : World) (mb : Option Nat) : Calls Try.prog 24 #[.map mb] w fun e w' => e = .returned (.func (.func 40) #[] #[.pointer (some ⟨w.heap.size, 0, none⟩)]) ∧ w' = w.alloc (.cells #[.map mb] 49) :=
  callsIn_wide.1 (Try.maps_Keys_24 mb w)

/-- Names. -/
theorem names_c {w : World} {base : Nat} {D : Dk} (h : DiskAt w base D) (hd : D.down = false) :
    Calls Try.prog 19 #[.pointer (some ⟨D.b, 0, none⟩)] w fun e w' => ∃ v, e = .returned v ∧ w'.ownsRow w.heap.size 9 1 v D.fs.length ((sortN D.fs).map Go.Proofs.encStr) ∧ Below w.heap.size w w' := by
  have hu := Aside.mk (up_any D.b w h.hb)
  have c2 := (dcells h.hb).c2
  have HK := Aside.mk (keys_c w (some D.m))
  have HS := Aside.mk (sorted_c h)
  rw [hd] at hu
  clear h hd
  go_enter Try.func19, Try.ntmps19
  go_wp2_with fail
  refine hu.out.mono ?_
  rintro e w1 ⟨rfl, rfl⟩
  go_wp2_with fail
  refine HK.out.mono ?_
  rintro e w1 ⟨rfl, rfl⟩
  go_wp2_with fail
  refine HS.out.mono ?_
  rintro e w2 ⟨v, rfl, h2⟩
  have HX := Aside.mk h2
  clear h2
  go_wp2
  go_ret
  exact ⟨v, rfl, HX.out⟩
end Go.Proofs.Ytajgimacecjnkaa
