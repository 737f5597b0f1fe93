/- What Sync and Boot leave alone; the disk where all is sure. -/
import Derived.Test.YtajgimacecjnkaaAwake
set_option linter.unusedSimpArgs false
set_option linter.unusedVariables false
namespace Go.Proofs.Ytajgimacecjnkaa
open Go.RowKit Go.Lib Go.Proofs.YtajgimacecjnkaaW.PrintWords

theorem sync1_far {w : World} {base : Nat} {D : Dk} {f : FileE} (h : DiskAt w base D) (hf : f ∈ D.fs) :
    Calls Try.prog 32 #[.pointer (some ⟨f.fb, 0, none⟩)] w fun e w' => e = .returned (.int .i64 0) ∧ w' = w.setCell ⟨f.fb, 1, none⟩ (.int .i64 f.data.length) := by
  have H := h.hf f hf
  obtain ⟨A, c, hv, _, _⟩ := H.own.form
  have c0 := (fcells H.hb).c0
  have c1 := (fcells H.hb).c1
  have f1 := (fcells H.hb).f1
  rw [hv] at c0
  clear hv h H hf
  go_enter Try.func32, Try.ntmps32
  go_wp2
  go_ret
  exact ⟨rfl, rfl⟩

/-- Sync of a file that is there. -/
def SyncFar (w : World) (base : Nat) (D : Dk) (f : FileE) (e : Ending) (w' : World) : Prop :=
  SyncYes w base D f e w' ∧ ∀ j, j < w.heap.size → j ≠ D.b → j ≠ f.fb → w'.heap[j]? = w.heap[j]?
theorem sync_far {w : World} {base : Nat} {D : Dk} (name : ByteArray) (h : DiskAt w base D) (hbase : base ≤ w.heap.size) (hs : name.size ≤ 9223372036854775807) {f : FileE} (hl : look D.fs name = some f) (hd : D.down = false) (hz : D.fuse ≠ 0) (hok : nameOk name = true) :
    Calls Try.prog 15 #[.pointer (some ⟨D.b, 0, none⟩), .string name] w (SyncFar w base D f) := by
  have HC := Aside.mk (deed_c name 32 #[] (SyncFar w base D) h hbase hs enter32 (fun f e w' hr => ⟨_, hr.1.1⟩) (fun f w2 hl hd hz hD hb hk => by
    have h1 := sync1_far hD (look_mem hl).1
    simp only [Array.append_empty]
    refine h1.mono fun e w' ⟨a, b⟩ => ?_
    subst b
    have R := boot_sure hD (look_mem hl).1 (w' := w2.setCell ⟨f.fb, 1, none⟩ (.int .i64 f.data.length)) (file_set1 (hD.hf f (look_mem hl).1).hb _) (fun i hi => Below.heap_setCell _ _ _ _ hi)
    exact ⟨⟨a, R, hb.trans ((Below.refl _ _).setCell (hD.hf f (look_mem hl).1).b0 _)⟩, fun j h0 h1 h2 => (Below.heap_setCell _ _ _ _ h2).trans (hk j h0 h1)⟩))
  have HX := Aside.mk (And.intro hl (And.intro hd (And.intro hz hok)))
  clear h hl hd hz hok
  go_enter Try.func15, Try.ntmps15
  go_wp2_with fail
  refine HC.out.mono ?_
  rintro e w1 hr
  obtain ⟨hl, hd, hz, hok⟩ := HX.out
  have hyes : SyncFar w base D f e w1 := by
    rcases hr with h | ⟨f', hlf, _, _, h⟩
    · obtain ⟨_, _, _, _, _, _, _, _, _, _, h⟩ := h
      rcases h with h | h | h | h
      · rw [hd] at h; cases h
      · exact absurd h hz
      · rw [hok] at h; cases h
      · rw [hl] at h; cases h
    · rw [hl] at hlf; cases hlf; exact h
  obtain ⟨⟨rfl, h2, h3⟩, h4⟩ := hyes
  have HR := Aside.mk (And.intro h2 (And.intro h3 h4))
  clear hr hl hd hz hok h2 h3 h4
  go_wp2
  go_ret
  exact ⟨⟨rfl, HR.out.1, HR.out.2.1⟩, HR.out.2.2⟩

/-- Blocks of bytes, strings, rows of byte slices stay. -/
def KeepT (w w' : World) : Prop := ∀ (i : Nat) (c : Array Value) (e : TypeId) (fr : Nat × Nat), w.heap[i]? = some (Obj.cells c e fr) → (e = 5 ∨ e = 9 ∨ e = 29) → w'.heap[i]? = w.heap[i]?
theorem KeepT.trans {a b c : World} (h : KeepT a b) (g : KeepT b c) : KeepT a c := fun i x e fr hh he => by
  have h1 := h i x e fr hh he
  exact (g i x e fr (h1.trans hh) he).trans h1
theorem KeepT.refl (w : World) : KeepT w w := fun _ _ _ _ _ _ => rfl
theorem KeepT.of_below {a b : World} (h : Below a.heap.size a b) : KeepT a b := fun i c e fr hh _ => h.block i (heap_lt hh)
theorem KeepT.of_far {w w' : World} {base : Nat} {D : Dk} (h : DiskAt w base D) (hf : ∀ i, i < w.heap.size → i ≠ D.b → (∀ f ∈ D.fs, i ≠ f.fb) → w'.heap[i]? = w.heap[i]?) : KeepT w w' := fun i c e fr hh he =>
  hf i (heap_lt hh) (obj_ne hh h.hb (cells_ne (by rcases he with rfl | rfl | rfl <;> decide))) (fun f hf' => obj_ne hh (h.hf f hf').hb (cells_ne (by rcases he with rfl | rfl | rfl <;> decide)))
theorem DataAt.keep {w w' : World} {base : Nat} {v : Value} {xs : List Int} (h : DataAt w base v xs) (hk : KeepT w w') : DataAt w' base v xs := h.move fun k e => by
  obtain ⟨c, hc⟩ := h.typed k e
  exact hk k _ _ _ hc (.inl rfl)
theorem ownsRow_keep {w w' : World} {base : Nat} {e : TypeId} {v : Value} {n : Nat} {xs : List Value} (h : w.ownsRow base e 1 v n xs) (he : e = 9 ∨ e = 29) (hk : KeepT w w') : w'.ownsRow base e 1 v n xs := by
  refine ⟨h.1, h.2.imp id ?_⟩
  rintro ⟨g, cap, cur, a, b, c, r⟩
  exact ⟨g, cap, cur, a, b, (hk g _ _ _ c (by rcases he with rfl | rfl <;> simp)).trans c, r⟩

/-- The files' names and bytes. -/
def pairs (fs : List FileE) : List (ByteArray × List Int) := fs.map fun f => (f.name, f.data)
theorem pairs_len {fs gs : List FileE} (h : pairs fs = pairs gs) : fs.length = gs.length := by have := congrArg List.length h; simpa [pairs] using this
theorem pairs_sum : ∀ {fs gs : List FileE}, pairs fs = pairs gs → sumLen fs = sumLen gs
  | [], [], _ => rfl
  | [], _ :: _, h => by simp [pairs] at h
  | _ :: _, [], h => by simp [pairs] at h
  | f :: fs, g :: gs, h => by
    simp only [pairs, List.map_cons, List.cons.injEq, Prod.mk.injEq] at h
    have := pairs_sum (fs := fs) (gs := gs) h.2
    simp only [sumLen]
    rw [h.1.2, this]
theorem pairs_sort {fs gs : List FileE} (h : pairs fs = pairs gs) : sortN fs = sortN gs := by
  have e : ∀ l : List FileE, (l.map fun f => f.name.data.toList) = (pairs l).map fun p => p.1.data.toList := fun l => by simp [pairs, List.map_map, Function.comp_def]
  unfold sortN
  rw [e fs, e gs, h]
theorem pairs_upd {fs : List FileE} (hn : (fs.map (·.fb)).Nodup) {f : FileE} (hf : f ∈ fs) (v : Value) (s : Int) : pairs (upd fs f.fb v f.data s) = pairs fs := by
  unfold pairs upd
  rw [List.map_map]
  refine List.map_congr_left fun g hg => ?_
  show ((if g.fb = f.fb then { g with v := v, data := f.data, sure := s } else g : FileE).name, (if g.fb = f.fb then { g with v := v, data := f.data, sure := s } else g : FileE).data) = _
  split
  · rename_i e
    rw [nodup_eq hn hg hf e]
  · rfl
theorem pairs_mem {fs gs : List FileE} (h : pairs fs = pairs gs) {f : FileE} (hf : f ∈ fs) : ∃ g ∈ gs, g.name = f.name ∧ g.data = f.data := by
  have : (f.name, f.data) ∈ pairs gs := by rw [← h]; exact List.mem_map.2 ⟨f, hf, rfl⟩
  obtain ⟨g, hg, e⟩ := List.mem_map.1 this
  simp at e
  exact ⟨g, hg, e.1, e.2⟩
/-- Where all is sure a boot turns no byte. -/
theorem boot_keeps : ∀ (names : List (List UInt8)) (p : List FileE × List Int), (p.1.map (·.fb)).Nodup → (∀ f ∈ p.1, f.sure = f.data.length) → pairs (names.foldl bootStep p).1 = pairs p.1
  | [], _, _, _ => rfl
  | nm :: names, p, hn, hs => by
    have one : ((bootStep p nm).1.map (·.fb)).Nodup ∧ (∀ f ∈ (bootStep p nm).1, f.sure = f.data.length) ∧ pairs (bootStep p nm).1 = pairs p.1 := by
      unfold bootStep
      split
      · exact ⟨hn, hs, rfl⟩
      · rename_i f hl
        have hf := (look_mem hl).1
        have key : ((upd p.1 f.fb f.v f.data f.data.length).map (·.fb)).Nodup ∧ (∀ g ∈ upd p.1 f.fb f.v f.data f.data.length, g.sure = g.data.length) ∧ pairs (upd p.1 f.fb f.v f.data f.data.length) = pairs p.1 := by
          refine ⟨by rw [upd_fbs]; exact hn, fun g hg => ?_, pairs_upd hn hf _ _⟩
          obtain ⟨g0, h0, ⟨_, rfl⟩ | ⟨_, rfl⟩⟩ := mem_upd hg
          · rfl
          · exact hs _ h0
        split
        · exact key
        · rw [if_neg (by rw [hs f hf]; omega)]
          exact key
    have := boot_keeps names (bootStep p nm) one.1 one.2.1
    rw [List.foldl_cons, this, one.2.2]

theorem row_form {w : World} {base : Nat} {e : TypeId} {v : Value} {n : Nat} {xs : List Value} (h : w.ownsRow base e 1 v n xs) : ∃ R c, v = .slice R n c ∧ n ≤ c ∧ ∀ j x, xs[j]? = some x → ∃ ad, R = some ad ∧ w.cell? (ad.add j) = some x := by
  obtain ⟨hl, h⟩ := h
  rcases h with ⟨rfl, rfl⟩ | ⟨g, cap, cur, rfl, _, hg, hn, hm, hs, ht⟩
  · exact ⟨none, 0, rfl, Nat.le_refl _, fun j x hj => by have := (List.getElem?_eq_some_iff.1 hj).1; omega⟩
  · refine ⟨_, cap, rfl, hn, fun j x hj => ⟨_, rfl, ?_⟩⟩
    rw [add_plain]
    unfold World.cell?
    rw [hg]
    have hjl := (List.getElem?_eq_some_iff.1 hj).1
    rw [← ht, List.getElem?_take, if_pos (by omega)] at hj
    simpa using hj
/-- A disk whose blocks are as they were, but for rows of byte slices. -/
theorem DiskAt.moveT {w w' : World} {base : Nat} {D : Dk} (h : DiskAt w base D) (hk : ∀ (k : Nat) (o : Obj), w.heap[k]? = some o → (∀ c f, o ≠ Obj.cells c 29 f) → w'.heap[k]? = w.heap[k]?) : DiskAt w' base D :=
  { h with
    hb := (hk _ _ h.hb (fun c f => cells_ne (by decide))).trans h.hb
    hm := (hk _ _ h.hm (fun c f => cells_map_ne.symm)).trans h.hm
    hf := fun f hf => (h.hf f hf).move (hk _ _ (h.hf f hf).hb (fun c f => cells_ne (by decide))) (fun k e => by
      obtain ⟨c, hc⟩ := (h.hf f hf).own.typed k e
      exact hk _ _ hc (fun c f => cells_ne (by decide))) }
theorem DataAt.moveT {w w' : World} {base : Nat} {v : Value} {xs : List Int} (h : DataAt w base v xs) (hk : ∀ (k : Nat) (o : Obj), w.heap[k]? = some o → (∀ c f, o ≠ Obj.cells c 29 f) → w'.heap[k]? = w.heap[k]?) : DataAt w' base v xs := h.move fun k e => by
  obtain ⟨c, hc⟩ := h.typed k e
  exact hk _ _ hc (fun c f => cells_ne (by decide))
theorem rowT {w w' : World} {base : Nat} {v : Value} {n : Nat} {xs : List Value} (h : w.ownsRow base 9 1 v n xs) (hk : ∀ (k : Nat) (o : Obj), w.heap[k]? = some o → (∀ c f, o ≠ Obj.cells c 29 f) → w'.heap[k]? = w.heap[k]?) : w'.ownsRow base 9 1 v n xs := by
  refine ⟨h.1, h.2.imp id ?_⟩
  rintro ⟨g, cap, cur, a, b, c, r⟩
  exact ⟨g, cap, cur, a, b, (hk g _ c (fun c f => cells_ne (by decide))).trans c, r⟩
/-- What an append to a row of byte slices leaves alone. -/
theorem grown_T {w w' : World} {base : Nat} {v : Value} {n : Nat} {xs : List Value} (h : w.ownsRow base 29 1 v n xs) (hg : w.grownBy w' v.ownBlock) : ∀ (k : Nat) (o : Obj), w.heap[k]? = some o → (∀ c f, o ≠ Obj.cells c 29 f) → w'.heap[k]? = w.heap[k]? := by
  intro k o hk ho
  refine hg.block k (heap_lt hk) fun e => ?_
  rcases h.2 with ⟨rfl, _⟩ | ⟨g, cap, cur, rfl, _, hgg, _⟩
  · cases e
  · have e : k = g := by simpa [Value.ownBlock] using e
    subst e
    rw [hk] at hgg
    cases hgg
    exact ho _ _ rfl
end Go.Proofs.Ytajgimacecjnkaa
