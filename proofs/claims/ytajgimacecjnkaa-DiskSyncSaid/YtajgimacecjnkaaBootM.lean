/- Boot: its rounds, plainly. -/
import Derived.Test.YtajgimacecjnkaaBootL
import Derived.Test.YtajgimacecjnkaaRen
set_option linter.unusedSimpArgs false
set_option linter.unusedVariables false
namespace Go.Proofs.Ytajgimacecjnkaa
open Go.RowKit Go.Lib Go.Proofs.YtajgimacecjnkaaW.PrintWords

/-- The round's book. -/
structure Bk (w1 wr : World) (base : Nat) (D : Dk) (names : List (List UInt8)) (j : Nat) (ks0 ks : List Int) (l : List FileE) : Prop where
  at_ : DiskAt wr base (D.booted l)
  is : (names.take j).foldl bootStep (D.fs, ks0) = (l, ks)
  ids : l.map (fun f => (f.name, f.fb)) = D.fs.map (fun f => (f.name, f.fb))
  far : ∀ i, i ≠ D.b → (∀ f ∈ D.fs, i ≠ f.fb) → wr.heap[i]? = w1.heap[i]?
  below : Below base w1 wr

theorem Bk.drewN {w1 wr : World} {base : Nat} {D : Dk} {names : List (List UInt8)} {j : Nat} {ks0 ks : List Int} {l : List FileE} (h : Bk w1 wr base D names j ks0 ks l) (n : Nat) : Bk w1 (wr.drewN n) base D names j ks0 ks l :=
  ⟨h.at_.below (pw_below_drewN (Below.refl _ _) _), h.is, h.ids, fun i a b => (h.far i a b), pw_below_drewN h.below _⟩
theorem upd_ids (fs : List FileE) (fb : Nat) (v : Value) (data : List Int) (sure : Int) : (upd fs fb v data sure).map (fun f => (f.name, f.fb)) = fs.map (fun f => (f.name, f.fb)) := by
  unfold upd
  rw [List.map_map]
  refine List.map_congr_left fun f _ => ?_
  show (if f.fb = fb then { f with v := v, data := data, sure := sure } else f : FileE).name |> fun a => (a, _) = _
  simp only [Function.comp]
  split <;> rfl
theorem ids_fb {l l' : List FileE} (h : l.map (fun f => (f.name, f.fb)) = l'.map (fun f => (f.name, f.fb))) {f : FileE} (hf : f ∈ l) : ∃ g ∈ l', g.fb = f.fb ∧ g.name = f.name := by
  have : (f.name, f.fb) ∈ l'.map (fun f => (f.name, f.fb)) := by rw [← h]; exact List.mem_map.2 ⟨f, hf, rfl⟩
  obtain ⟨g, hg, e⟩ := List.mem_map.1 this
  simp at e
  exact ⟨g, hg, e.2, e.1⟩
theorem step_eq {names : List (List UInt8)} {j : Nat} {nm : ByteArray} (h : names.take (j + 1) = names.take j ++ [nm.data.toList]) {p q : List FileE × List Int} (hp : (names.take j).foldl bootStep p = q) : (names.take (j + 1)).foldl bootStep p = bootStep q nm.data.toList := by
  rw [h, List.foldl_append, hp]; rfl
theorem nm_back (nm : ByteArray) : (⟨nm.data.toList.toArray⟩ : ByteArray) = nm := by simp

theorem Bk.cut {w1 W : World} {base : Nat} {D : Dk} {names : List (List UInt8)} {j : Nat} {ks0 kst : List Int} {k0 : Int} {l : List FileE} {nm : ByteArray} {f : FileE} {Af : Option Addr} {cf : Nat} (h : Bk w1 W base D names j ks0 (k0 :: kst) l)
    (hlk : look l nm = some f) (hv : f.v = .slice Af f.data.length cf) (hn : names.take (j + 1) = names.take j ++ [nm.data.toList]) (ht : 0 < (f.data.length : Int) - f.sure) {n : Nat} {used : Int} (hst : stays f k0 = n) (hu : used = sumLen l - ((f.data.length : Int) - n)) :
    ∃ l', Bk w1 (((W.setCell ⟨f.fb, 0, none⟩ (.slice Af n n)).setCell ⟨D.b, 1, none⟩ (.int .i64 used)).setCell ⟨f.fb, 1, none⟩ (.int .i64 n)).drew base D names (j + 1) ks0 kst l' := by
  have hf := (look_mem hlk).1
  have H := h.at_.hf f hf
  have hfb := h.at_.fb_ne_b hf
  obtain ⟨s1, s2, s3⟩ := stays_le H.sure k0
  rw [hst] at s1 s2 s3
  have e0 : (W.setCell ⟨f.fb, 0, none⟩ (.slice Af n n)).heap[D.b]? = some (DiskObj D.room (sumLen l) D.m (-1) false) := (Below.heap_setCell _ _ _ _ (Ne.symm hfb)).trans h.at_.hb
  have e1 : (((W.setCell ⟨f.fb, 0, none⟩ (.slice Af n n)).setCell ⟨D.b, 1, none⟩ (.int .i64 used)).setCell ⟨f.fb, 1, none⟩ (.int .i64 n)).drew.heap[D.b]? = some (DiskObj D.room used D.m (-1) false) :=
    (show _ from (Below.heap_setCell _ _ _ _ (Ne.symm hfb)).trans (disk_set1 e0 used))
  have e2 : ((W.setCell ⟨f.fb, 0, none⟩ (.slice Af n n)).setCell ⟨D.b, 1, none⟩ (.int .i64 used)).heap[f.fb]? = some (FileObj (.slice Af n n) f.sure) := (Below.heap_setCell _ _ _ _ hfb).trans (file_set0 H.hb _)
  have e3 : (((W.setCell ⟨f.fb, 0, none⟩ (.slice Af n n)).setCell ⟨D.b, 1, none⟩ (.int .i64 used)).setCell ⟨f.fb, 1, none⟩ (.int .i64 n)).drew.heap[f.fb]? = some (FileObj (.slice Af n n) n) := file_set1 e2 _
  have hO : ∀ i, i ≠ D.b → i ≠ f.fb → (((W.setCell ⟨f.fb, 0, none⟩ (.slice Af n n)).setCell ⟨D.b, 1, none⟩ (.int .i64 used)).setCell ⟨f.fb, 1, none⟩ (.int .i64 n)).drew.heap[i]? = W.heap[i]? := fun i a b =>
    (show _ from ((Below.heap_setCell _ _ _ _ b).trans (Below.heap_setCell _ _ _ _ a)).trans (Below.heap_setCell _ _ _ _ b))
  have hB : Below base W (((W.setCell ⟨f.fb, 0, none⟩ (.slice Af n n)).setCell ⟨D.b, 1, none⟩ (.int .i64 used)).setCell ⟨f.fb, 1, none⟩ (.int .i64 n)).drew := ((((Below.refl _ _).setCell H.b0 _).setCell h.at_.b0 _).setCell H.b0 _).drew
  have R := boot_cut h.at_ hf Af cf hv n s1 (w' := (((W.setCell ⟨f.fb, 0, none⟩ (.slice Af n n)).setCell ⟨D.b, 1, none⟩ (.int .i64 used)).setCell ⟨f.fb, 1, none⟩ (.int .i64 n)).drew) (e1.trans (by rw [hu]; rfl)) e3 hO
  refine ⟨upd l f.fb (cutV f.v n) (f.data.take n) n, ?_, ?_, ?_, ?_, h.below.trans hB⟩
  · have hs : sumLen l - ((f.data.length : Int) - n) = sumLen (upd l f.fb (cutV f.v n) (f.data.take n) n) := by
      rw [sumLen_upd (fs := l) h.at_.fbs hf]
      have : (f.data.take n).length = n := by simp; omega
      rw [this]; show _ = sumLen l - _ + _; omega
    rw [hv]
    rw [hv] at hs
    unfold Dk.booted
    rw [← hs]
    exact R
  · rw [step_eq hn h.is]
    unfold bootStep
    rw [nm_back]
    show (match look l nm with | none => _ | some f => _) = _
    rw [hlk]
    show (if f.sure < (f.data.length : Int) then _ else _) = _
    rw [if_pos (by omega), hst]
  · rw [upd_ids, h.ids]
  · intro i a b
    obtain ⟨g, hg, e, _⟩ := ids_fb h.ids hf
    exact (hO i a (by rw [← e]; exact b g hg)).trans (h.far i a b)

theorem Bk.sured {w1 W : World} {base : Nat} {D : Dk} {names : List (List UInt8)} {j : Nat} {ks0 ks : List Int} {l : List FileE} {nm : ByteArray} {f : FileE} (h : Bk w1 W base D names j ks0 ks l)
    (hlk : look l nm = some f) (hn : names.take (j + 1) = names.take j ++ [nm.data.toList]) (ht : ¬ (0 < (f.data.length : Int) - f.sure ∧ 0 < ks.length)) :
    ∃ l', Bk w1 (W.setCell ⟨f.fb, 1, none⟩ (.int .i64 f.data.length)) base D names (j + 1) ks0 ks l' := by
  have hf := (look_mem hlk).1
  have H := h.at_.hf f hf
  have hfb := h.at_.fb_ne_b hf
  have R := boot_sure h.at_ hf (w' := W.setCell ⟨f.fb, 1, none⟩ (.int .i64 f.data.length)) (file_set1 H.hb _) (fun i hi => Below.heap_setCell _ _ _ _ hi)
  refine ⟨upd l f.fb f.v f.data f.data.length, ?_, ?_, ?_, ?_, h.below.trans ((Below.refl _ _).setCell H.b0 _)⟩
  · have hs : sumLen l = sumLen (upd l f.fb f.v f.data f.data.length) := by
      rw [sumLen_upd (fs := l) h.at_.fbs hf]
      show _ = sumLen l - _ + _; omega
    unfold Dk.booted
    rw [← hs]
    exact R
  · rw [step_eq hn h.is]
    unfold bootStep
    rw [nm_back]
    show (match look l nm with | none => _ | some f => _) = _
    rw [hlk]
    cases ks with
    | nil => rfl
    | cons k kt =>
      show (if f.sure < (f.data.length : Int) then _ else _) = _
      rw [if_neg (by simp at ht; omega)]
  · rw [upd_ids, h.ids]
  · intro i a b
    obtain ⟨g, hg, e, _⟩ := ids_fb h.ids hf
    exact (Below.heap_setCell _ _ _ _ (by rw [← e]; exact b g hg)).trans (h.far i a b)

theorem sortN_mem {fs : List FileE} {s : List UInt8} (h : s ∈ sortN fs) : ∃ f ∈ fs, f.name.data.toList = s := by
  unfold sortN at h
  have := (List.mergeSort_perm _ _).mem_iff.1 h
  obtain ⟨f, hf, e⟩ := List.mem_map.1 this
  exact ⟨f, hf, e⟩
theorem sortN_len (fs : List FileE) : (sortN fs).length = fs.length := by unfold sortN; rw [List.length_mergeSort, List.length_map]
theorem Bk.turn {w1 W : World} {base : Nat} {D : Dk} {j : Nat} {ks0 ks : List Int} {l : List FileE} (h : Bk w1 W base D (sortN D.fs) j ks0 ks l) (hj : j < D.fs.length) :
    ∃ nm f, (sortN D.fs).getD j [] = nm.data.toList ∧ look l nm = some f ∧ f ∈ l ∧ (sortN D.fs).take (j + 1) = (sortN D.fs).take j ++ [nm.data.toList] := by
  have hj' : j < (sortN D.fs).length := by rw [sortN_len]; exact hj
  obtain ⟨f0, hf0, e0⟩ := sortN_mem (List.getElem_mem hj')
  obtain ⟨f, hf, e1, e2⟩ := ids_fb h.ids.symm hf0
  refine ⟨f0.name, f, ?_, findIdx_mem h.at_.names hf e2, hf, ?_⟩
  · rw [List.getD_eq_getElem?_getD, List.getElem?_eq_getElem hj']; exact e0.symm
  · rw [List.take_succ_eq_append_getElem hj', e0]
end Go.Proofs.Ytajgimacecjnkaa
