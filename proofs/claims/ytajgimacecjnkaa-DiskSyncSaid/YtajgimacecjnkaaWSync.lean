/- The walk of DiskSync. -/
import Derived.Test.YtajgimacecjnkaaWRoom
import Derived.Test.YtajgimacecjnkaaFar
import Derived.Maps.AppendAt
set_option linter.unusedSimpArgs false
set_option linter.unusedVariables false
namespace Go.Proofs.Ytajgimacecjnkaa
open Go.RowKit Go.Lib Go.Proofs.YtajgimacecjnkaaW.PrintWords Go.Proofs.Ytajgimacecjnkaa.PDiskRoom

/-- The second loop's book: D0 the disk at its start; its rows: v7 the names, v8 what was read. -/
structure Lb (wB wr : World) (base : Nat) (D0 : Dk) (v7 v8 : Value) (i : Nat) (D : Dk) (vals : List Value) : Prop where
  at_ : DiskAt wr base D
  b : D.b = D0.b
  up : D.down = false
  fuse : D.fuse = -1
  same : pairs D.fs = pairs D0.fs
  sure : ∀ f ∈ D.fs, f.name.data.toList ∈ (sortN D0.fs).take i → f.sure = f.data.length
  row : wr.ownsRow base 29 1 v8 i vals
  was : ∀ j, j < i → ∃ v f, vals[j]? = some v ∧ f ∈ D0.fs ∧ f.name.data.toList = (sortN D0.fs).getD j [] ∧ DataAt wr 0 v f.data
  names : wr.ownsRow base 9 1 v7 D0.fs.length ((sortN D0.fs).map Go.Proofs.encStr)
  below : Below wB.heap.size wB wr
  base_ : wB.heap.size ≤ base
  le : base ≤ wr.heap.size

theorem name_at {fs : List FileE} {j : Nat} (hj : j < fs.length) : ∃ f ∈ fs, f.name.data.toList = (sortN fs).getD j [] ∧ ((sortN fs).map Go.Proofs.encStr)[j]? = some (.string f.name) ∧ (sortN fs).take (j + 1) = (sortN fs).take j ++ [f.name.data.toList] := by
  have hj' : j < (sortN fs).length := by rw [sortN_len]; exact hj
  obtain ⟨f, hf, e⟩ := sortN_mem (List.getElem_mem hj')
  refine ⟨f, hf, ?_, ?_, ?_⟩
  · rw [List.getD_eq_getElem?_getD, List.getElem?_eq_getElem hj']; exact e
  · rw [List.getElem?_map, List.getElem?_eq_getElem hj', ← e]
    show some (Go.Proofs.encStr _) = _
    rw [Go.Proofs.encStr, nm_back]
  · rw [List.take_succ_eq_append_getElem hj', e]
theorem row_string {w : World} {base : Nat} {R : Option Addr} {n c : Nat} {xs : List Value} {j : Nat} {x : Value} (h : w.ownsRow base 9 1 (.slice R n c) n xs) (hx : xs[j]? = some x) : ∃ ad, R = some ad ∧ w.cell? (ad.add j) = some x := by
  obtain ⟨R', c', e, _, hr⟩ := row_form h
  cases e
  exact hr j x hx

/-- A mark at which the walk stands still. -/
def Stop (p : Prop) : Prop := p
theorem goal_stop {p : Prop} (h : Stop p) : p := h
theorem goal_go {p : Prop} (h : p) : Stop p := h
theorem DataAt.low {w : World} {base : Nat} {v : Value} {xs : List Int} (h : DataAt w base v xs) : DataAt w 0 v xs := by
  refine ⟨h.out.imp id ?_⟩
  rintro ⟨g, cap, cur, a, b, r⟩
  exact ⟨g, cap, cur, a, Nat.zero_le _, r⟩
theorem Lb.keep {wB wr w5 w6 : World} {base : Nat} {D0 D : Dk} {v7 v8 v1 : Value} {i : Nat} {vals : List Value} {f : FileE} {e : Ending} (hL : Lb wB wr base D0 v7 v8 i D vals) (hf : f ∈ D.fs) (hb5 : Below wr.heap.size wr w5) (hs : SyncFar w5 base D f e w6) : KeepT wr (w6.alloc (.cells #[v1] 29)) :=
  ((KeepT.of_below hb5).trans (KeepT.of_far (hL.at_.below hb5) (fun j a b c => hs.2 j a b (c f hf)))).trans (KeepT.of_below (below_alloc (Below.refl _ _) _))
theorem Lb.step {wB wr w5 w6 w7 : World} {base : Nat} {D0 D : Dk} {v7 v8 v8' v1 : Value} {i : Nat} {vals : List Value} {f f0 : FileE} {e : Ending} (hL : Lb wB wr base D0 v7 v8 i D vals) (hf : f ∈ D.fs) (hf0 : f0 ∈ D0.fs) (hfn : f.name = f0.name) (hfd : f.data = f0.data)
    (hgd : f0.name.data.toList = (sortN D0.fs).getD i []) (htk : (sortN D0.fs).take (i + 1) = (sortN D0.fs).take i ++ [f0.name.data.toList]) (hd5 : DataAt w5 wr.heap.size v1 f.data) (hb5 : Below wr.heap.size wr w5) (hs : SyncFar w5 base D f e w6)
    (hown : w7.ownsRow base 29 1 v8' (i + 1) (vals ++ [v1])) (hg : (w6.alloc (.cells #[v1] 29)).grownBy w7 v8.ownBlock) :
    ∃ D', Lb wB w7 base D0 v7 v8' (i + 1) D' (vals ++ [v1]) := by
  have hk : KeepT wr (w6.alloc (.cells #[v1] 29)) := hL.keep hf hb5 hs
  have hrow := ownsRow_keep hL.row (.inr rfl) hk
  have hT := grown_T hrow hg
  have hvl : vals.length = i := by have := hL.row.1; omega
  have hb6 := hs.1.2.2
  have hle5 : base ≤ w5.heap.size := Nat.le_trans hL.le hb5.size
  have hle6 : base ≤ w6.heap.size := Nat.le_trans hle5 hb6.size
  have hle7 : base ≤ w7.heap.size := Nat.le_trans hle6 (by have := hg.size; simp at this; omega)
  refine ⟨_, ⟨(hs.1.2.1.below (below_alloc (Below.refl _ _) _)).moveT hT, hL.b, hL.up, ?_, ?_, ?_, hown, ?_, rowT (ownsRow_keep hL.names (.inl rfl) hk) hT, ?_, hL.base_, hle7⟩⟩
  · show burnt D.fuse = -1
    rw [hL.fuse]; rfl
  · show pairs (upd D.fs f.fb f.v f.data f.data.length) = _
    rw [pairs_upd hL.at_.fbs hf, hL.same]
  · intro g hg hm
    obtain ⟨g0, h0, ⟨_, rfl⟩ | ⟨e0, rfl⟩⟩ := mem_upd hg
    · rfl
    · rw [htk] at hm
      rcases List.mem_append.1 hm with h1 | h1
      · exact hL.sure _ h0 h1
      · have e1 : g.name.data.toList = f0.name.data.toList := by simpa using h1
        have e2 : g.name = f.name := by rw [hfn, ← nm_back g.name, e1, nm_back]
        exact absurd (congrArg FileE.fb (name_eq hL.at_.names h0 hf e2)) e0
  · intro j hj
    by_cases hji : j < i
    · obtain ⟨v, g, a, b, c, d⟩ := hL.was j hji
      exact ⟨v, g, by rw [List.getElem?_append_left (by omega)]; exact a, b, c, (d.keep hk).moveT hT⟩
    · have : j = i := by omega
      subst this
      refine ⟨v1, f0, by rw [List.getElem?_append_right (by omega), hvl]; simp, hf0, hgd, ?_⟩
      rw [← hfd]
      exact (((hd5.low.keep (KeepT.of_far (hL.at_.below hb5) (fun j a b c => hs.2 j a b (c f hf))))).keep (KeepT.of_below (below_alloc (Below.refl _ _) _))).moveT hT
  · have h1 := hL.base_
    have h2 := hL.le
    refine ((((hL.below.trans (hb5.mono (by omega))).trans (hb6.mono h1)).trans ((below_alloc (Below.refl _ _) _).mono (by omega))).grown hg (by simp; omega) ?_)
    intro k ek
    rcases hL.row.2 with ⟨e8, _⟩ | ⟨g, cap, cur, e8, hg8, _⟩
    · rw [e8] at ek; cases ek
    · rw [e8] at ek
      have : g = k := by simpa [Value.ownBlock] using ek
      omega
theorem sortN_of {fs : List FileE} {f : FileE} (h : f ∈ fs) : f.name.data.toList ∈ sortN fs := by
  unfold sortN
  exact (List.mergeSort_perm _ _).mem_iff.2 (List.mem_map.2 ⟨f, h, rfl⟩)
/-- The third loop's book. -/
structure Lc (wB wr : World) (base : Nat) (D0 : Dk) (v7 v8 v13 : Value) (D : Dk) (vals : List Value) : Prop where
  at_ : DiskAt wr base D
  b : D.b = D0.b
  up : D.down = false
  same : pairs D.fs = pairs D0.fs
  row : wr.ownsRow base 29 1 v8 D0.fs.length vals
  was : ∀ j, j < D0.fs.length → ∃ v f, vals[j]? = some v ∧ f ∈ D0.fs ∧ f.name.data.toList = (sortN D0.fs).getD j [] ∧ DataAt wr 0 v f.data
  names : wr.ownsRow base 9 1 v7 D0.fs.length ((sortN D0.fs).map Go.Proofs.encStr)
  now : wr.ownsRow base 9 1 v13 D0.fs.length ((sortN D0.fs).map Go.Proofs.encStr)
  below : Below wB.heap.size wB wr
  base_ : wB.heap.size ≤ base
  le : base ≤ wr.heap.size
theorem Lc.later {wB wr w' : World} {base : Nat} {D0 D : Dk} {v7 v8 v13 : Value} {vals : List Value} (h : Lc wB wr base D0 v7 v8 v13 D vals) (hb : Below wr.heap.size wr w') : Lc wB w' base D0 v7 v8 v13 D vals :=
  have hk := KeepT.of_below hb
  ⟨h.at_.below hb, h.b, h.up, h.same, ownsRow_keep h.row (.inr rfl) hk, fun j hj => by obtain ⟨v, f, a, b, c, d⟩ := h.was j hj; exact ⟨v, f, a, b, c, d.keep hk⟩, ownsRow_keep h.names (.inl rfl) hk, ownsRow_keep h.now (.inl rfl) hk,
    h.below.trans (hb.mono (by have := h.below.size; omega)), h.base_, Nat.le_trans h.le hb.size⟩
/-- From the second loop's end, over Boot and Names. -/
theorem Lb.done {wB wr w8 w9 : World} {base : Nat} {D0 D : Dk} {v7 v8 v13 : Value} {vals : List Value} {lb : List FileE} (h : Lb wB wr base D0 v7 v8 D0.fs.length D vals) (hb8 : Below base wr w8) (hfar : ∀ i, i < wr.heap.size → i ≠ D.b → (∀ f ∈ D.fs, i ≠ f.fb) → w8.heap[i]? = wr.heap[i]?)
    (hD8 : DiskAt w8 base (D.booted lb)) (hp : pairs lb = pairs D.fs) (hrow : w9.ownsRow w8.heap.size 9 1 v13 lb.length ((sortN lb).map Go.Proofs.encStr)) (hb9 : Below w8.heap.size w8 w9) : Lc wB w9 base D0 v7 v8 v13 (D.booted lb) vals := by
  have hk : KeepT wr w9 := (KeepT.of_far h.at_ hfar).trans (KeepT.of_below hb9)
  have hp0 : pairs lb = pairs D0.fs := hp.trans h.same
  have hle8 : base ≤ w8.heap.size := Nat.le_trans h.le hb8.size
  refine ⟨hD8.below hb9, h.b, rfl, hp0, ownsRow_keep h.row (.inr rfl) hk, fun j hj => ?_, ownsRow_keep h.names (.inl rfl) hk, ?_, ?_, h.base_, Nat.le_trans hle8 hb9.size⟩
  · obtain ⟨v, f, a, b, c, d⟩ := h.was j hj
    exact ⟨v, f, a, b, c, d.keep hk⟩
  · rw [pairs_sort hp0, pairs_len hp0] at hrow
    refine ⟨hrow.1, hrow.2.imp id ?_⟩
    rintro ⟨g, cap, cur, a, b, r⟩
    exact ⟨g, cap, cur, a, Nat.le_trans hle8 b, r⟩
  · exact (h.below.trans (hb8.mono h.base_)).trans (hb9.mono (by have := h.base_; omega))
theorem Lb.synced {wB wr : World} {base : Nat} {D0 D : Dk} {v7 v8 : Value} {vals : List Value} (h : Lb wB wr base D0 v7 v8 D0.fs.length D vals) : ∀ f ∈ D.fs, f.sure = f.data.length := fun f hf => by
  refine h.sure f hf ?_
  rw [List.take_of_length_le (by rw [sortN_len]; exact Nat.le_refl _), ← pairs_sort h.same]
  exact sortN_of hf
theorem info29 : (Try.prog.info? 29).map (fun i => (i.zero, i.size, i.bytes)) = some (some (.slice none 0 0), 1, 24) := by kernel_rfl

set_option maxHeartbeats 4000000 in
set_option maxRecDepth 100000 in
theorem diskSync_c (A : Option Addr) (c : Nat) (l : List S32) (A5 : Option Addr) (n5 c5 : Nat) (keeps : List Int) (w : World) (hC : Kd.C k32 w A l.length l) (hc : l.length ≤ c) (hn : ∀ x ∈ l, x.f4 ≤ 9223372036854775807) (hR : ReadsOf (Value.int .i64) 0 w A5 n5 keeps) (h5 : n5 ≤ c5) :
    Calls Try.prog 5 #[.slice A l.length c, .slice A5 n5 c5] w fun e w' => e = .returned (.bool true) ∧ Below w.heap.size w w' := by
  have HG := Aside.mk (great_c A c l w hC hc)
  have HC := Aside.mk hC
  have HN := Aside.mk hn
  have HR := Aside.mk hR
  clear hC hn hR
  go_enter Try.func5, Try.ntmps5
  go_wp2_with fail
  refine HG.out.mono ?_
  rintro e w1 ⟨b, rfl, hb, hd⟩
  have HB1 := Aside.mk hd.below
  clear hd
  have early : Aside (∀ w', Below w.heap.size w w' → ∀ (e : Ending) (w2 : World), (e = .returned (.bool true) ∧ Below w'.heap.size w' w2) → e = .returned (.bool true) ∧ Below w.heap.size w w2) := ⟨fun w' h e w2 ⟨a, b⟩ => ⟨a, h.trans (b.mono h.size)⟩⟩
  cases b with
  | true =>
    go_wp2_with fail
    refine (awake_c _).mono ?_
    intro e w2 he
    obtain ⟨rfl, hb2⟩ := early.out _ HB1.out e w2 he
    have B2 := Aside.mk hb2
    clear hb2 he
    go_wp2
    go_ret
    exact ⟨rfl, B2.out⟩
  | false =>
    have HS := Aside.mk (hb rfl)
    clear hb
    by_cases h50 : 50 < n5
    · have hd50 : decide ((50 : Int) < (n5 : Int)) = true := by simp; omega
      go_wp2_with fail
      refine (awake_c _).mono ?_
      intro e w2 he
      obtain ⟨rfl, hb2⟩ := early.out _ HB1.out e w2 he
      have B2 := Aside.mk hb2
      clear hb2 he
      go_wp2
      go_ret
      exact ⟨rfl, B2.out⟩
    have hd50 : decide ((50 : Int) < (n5 : Int)) = false := by simp; omega
    go_wp2_with fail
    refine (new_good 100000 w1 (by omega) (by omega)).mono ?_
    rintro e w2 ⟨rfl, rfl⟩
    have hD := new_at w1 100000 (by omega) (by omega)
    have hBn := HB1.out.trans ((new_below w1 100000).mono HB1.out.size)
    generalize (w1.alloc (.map #[] 0)).alloc (DiskObj 100000 0 w1.heap.size (-1) false) = w2 at *
    have HD := Aside.mk (And.intro hD hBn)
    clear hD hBn hd50
    go_wp2_with fail
    go_loopg [6] l.length (fun gk v6 wr => ∃ j : Nat, gk = l.length - j ∧ j ≤ l.length ∧ v6 = .int .i64 j ∧ Aside (∃ D, DiskAt wr w1.heap.size D ∧ D.b = w1.heap.size + 1 ∧ Below w.heap.size w wr ∧ w1.heap.size ≤ wr.heap.size))
    case atStart =>
      exact ⟨0, by omega, by omega, rfl, ⟨_, HD.out.1, rfl, HD.out.2, by have : w1.heap.size + 1 < w2.heap.size := heap_lt HD.out.1.hb; omega⟩⟩
    case round =>
      obtain ⟨j, rfl, hj, rfl, HL⟩ := hrel
      have h60 : l.length ≤ 60 := HS.out.1
      by_cases hlt : j < l.length
      · obtain ⟨D, hD, hDb, hBr, hle⟩ := HL.out
        obtain ⟨ad, A3, c3, B5, d5, n3, m5, kind, name, to_, B, n, ks, rfl, ⟨x0, x1, x2, x3, x4, x5⟩, ha⟩ := act_at HC.out hBr HB1.out.size HN.out HS.out.2 hlt
        have HDo := Aside.mk (do_c hD hle ha)
        rw [hDb] at HDo
        have X := Aside.mk (And.intro hD (And.intro hDb (And.intro hBr hle)))
        clear hD hDb hBr hle ha HL
        go_wp2_with fail
        refine HDo.out.mono ?_
        rintro e w3 ⟨code, D', rfl, hD', hb', hs, h7⟩
        have X2 := Aside.mk (show ∃ D, DiskAt w3 w1.heap.size D ∧ D.b = w1.heap.size + 1 ∧ Below w.heap.size w w3 ∧ w1.heap.size ≤ w3.heap.size from
          ⟨D', hD', hs.b.trans X.out.2.1, X.out.2.2.1.trans (hb'.mono HB1.out.size), by have := hb'.size; have := X.out.2.2.2; omega⟩)
        clear hD' hb' hs h7
        go_wp2_with fail
        go_roundg (l.length - (j + 1))
        case measure => omega
        case rel => exact ⟨j + 1, rfl, by omega, by go_num, X2⟩
      · obtain ⟨D, hD, hDb, hBr, hle⟩ := HL.out
        have hdn := down_any D.b wr hD.hb
        rw [hDb] at hdn
        have HDN := Aside.mk hdn
        have X := Aside.mk (And.intro hD (And.intro hDb (And.intro hBr hle)))
        clear hdn hD hBr hle HL
        cases hdown : D.down with
        | true =>
          rw [hdown] at HDN
          clear hDb hdown
          go_wp2_with fail
          refine HDN.out.mono ?_
          rintro e w3 ⟨rfl, rfl⟩
          go_wp2_with fail
          refine (awake_c _).mono ?_
          intro e w4 he
          obtain ⟨rfl, hb2⟩ := early.out _ X.out.2.2.1 e w4 he
          have B2 := Aside.mk hb2
          clear hb2 he
          go_wp2
          go_ret
          exact ⟨rfl, B2.out⟩
        | false =>
          rw [hdown] at HDN
          have HDW := Aside.mk hdown
          have hfz := fuse_any D.b (-1) wr X.out.1.hb
          rw [hDb] at hfz
          have HFZ := Aside.mk hfz
          clear hDb hdown hfz
          go_wp2_with fail
          refine HDN.out.mono ?_
          rintro e w3 ⟨rfl, rfl⟩
          go_wp2_with fail
          refine HFZ.out.mono ?_
          rintro e w3 ⟨rfl, hw3⟩
          obtain ⟨D0, hD0, hb0, hdw0, hf0⟩ : ∃ D0, DiskAt w3 w1.heap.size D0 ∧ D0.b = w1.heap.size + 1 ∧ D0.down = false ∧ D0.fuse = -1 := by
            rw [hw3, ← X.out.2.1]
            exact ⟨_, X.out.1.nums D.used (-1) D.down (disk_set3 X.out.1.hb _) (fun k _ _ hk => Below.heap_setCell _ _ _ _ hk) rfl (by omega), rfl, HDW.out, rfl⟩
          have hB3 : Below w.heap.size w w3 ∧ w1.heap.size ≤ w3.heap.size := by
            rw [hw3]
            exact ⟨X.out.2.2.1.trans ((Below.refl _ _).setCell (by have := HB1.out.size; show w.heap.size ≤ w1.heap.size + 1; omega) _), by have := X.out.2.2.2; simpa using this⟩
          have hnm := names_c hD0 hdw0
          rw [hb0] at hnm
          have HNM := Aside.mk hnm
          have X3 := Aside.mk (And.intro hD0 (And.intro hb0 (And.intro hdw0 (And.intro hf0 hB3))))
          clear hw3 hD0 hb0 hdw0 hf0 hB3 hnm HFZ HDW HDN X
          go_wp2_with fail
          refine HNM.out.mono ?_
          rintro e w4 ⟨v7, rfl, hrow, hb4⟩
          obtain ⟨hD0, hb0, hdw0, hf0, hB3, hle3⟩ := X3.out
          have hrow1 : w4.ownsRow w1.heap.size 9 1 v7 D0.fs.length ((sortN D0.fs).map Go.Proofs.encStr) := by
            refine ⟨hrow.1, hrow.2.imp id ?_⟩
            rintro ⟨g, cap, cur, a, b, r⟩
            exact ⟨g, cap, cur, a, Nat.le_trans hle3 b, r⟩
          obtain ⟨R7, c7, rfl, hc7, _⟩ := row_form hrow1
          have hle4 : w1.heap.size ≤ w4.heap.size := Nat.le_trans hle3 hb4.size
          have X4 := Aside.mk (show Lb w w4 w1.heap.size D0 (.slice R7 D0.fs.length c7) (.slice none 0 0) 0 D0 [] from
            ⟨hD0.below hb4, rfl, hdw0, hf0, rfl, fun f _ h => by simp at h, ⟨rfl, .inl ⟨rfl, rfl⟩⟩, fun j h => by omega, hrow1, hB3.trans (hb4.mono (by have := HB1.out.size; omega)), HB1.out.size, hle4⟩)
          have hcnt : D0.fs.length ≤ 65536 := hD0.cnt
          have HB0 := Aside.mk hb0
          clear hD0 hb0 hdw0 hf0 hB3 hle3 hrow hrow1 hb4 hle4 HNM X3
          go_wp2_with fail
          go_loopg [8, 9] D0.fs.length (fun gk v8 v9 wr => ∃ (i : Nat) (R8 : Option Addr) (c8 : Nat), gk = D0.fs.length - i ∧ i ≤ D0.fs.length ∧ v9 = .int .i64 i ∧ v8 = .slice R8 i c8 ∧ Aside (∃ D vals, Lb w wr w1.heap.size D0 (.slice R7 D0.fs.length c7) (.slice R8 i c8) i D vals))
          case atStart =>
            exact ⟨0, none, 0, by omega, by omega, rfl, rfl, ⟨_, _, X4.out⟩⟩
          case round =>
            clear X4
            obtain ⟨i, R8, c8, rfl, hi, rfl, rfl, HL2⟩ := hrel
            by_cases hit : i < D0.fs.length
            · obtain ⟨D, vals, hL⟩ := HL2.out
              obtain ⟨f0, hf0, hgd, hstr, htk⟩ := name_at hit
              obtain ⟨ad7, rfl, hcell⟩ := row_string hL.names hstr
              obtain ⟨f, hf, hfn, hfd⟩ := pairs_mem hL.same.symm hf0
              have hlk : look D.fs f0.name = some f := findIdx_mem hL.at_.names hf hfn
              have hok : nameOk f0.name = true := by rw [← hfn]; exact hL.at_.ok f hf
              have hsz : f0.name.size ≤ 9223372036854775807 := by have := nameOk_size hok; omega
              have hrd := read_c f0.name hL.at_ hsz
              rw [hL.b, HB0.out] at hrd
              have HRD := Aside.mk hrd
              have XL := Aside.mk (And.intro hL (And.intro hf0 (And.intro hgd (And.intro hstr (And.intro htk (And.intro hf (And.intro hfn (And.intro hfd (And.intro hlk (And.intro hok hsz))))))))))
              clear hL hf0 hgd hstr htk hf hfn hfd hlk hok hsz hrd HL2
              generalize hnm : f0.name = nm at *
              have HNM := Aside.mk hnm
              clear hnm
              go_wp2_with fail
              refine HRD.out.mono ?_
              rintro e w5 ⟨v1, xs, code, rfl, hd5, hb5, hx5⟩
              obtain ⟨hL, hf0, hgd, hstr, htk, hf, hfn, hfd, hlk, hok, hsz⟩ := XL.out
              obtain ⟨rfl, hxs⟩ := hx5 f hL.up hok hlk
              subst hxs
              have hsy := sync_far nm (hL.at_.below hb5) (Nat.le_trans hL.le hb5.size) hsz hlk hL.up (by rw [hL.fuse]; decide) hok
              rw [hL.b, HB0.out] at hsy
              have HSY := Aside.mk hsy
              have hcell5 := cell_keep hb5 hcell
              obtain ⟨A1, c1, rfl, _, _⟩ := hd5.form
              have X5 := Aside.mk (And.intro hd5 hb5)
              clear hL hf0 hgd hstr htk hf hfn hfd hlk hok hsz hsy hd5 hb5 hx5 HRD
              go_wp2_with fail
              refine HSY.out.mono ?_
              rintro e w6 hs
              have HSF := Aside.mk hs
              obtain ⟨⟨rfl, _, _⟩, _⟩ := hs
              have HRW := Aside.mk (ownsRow_keep XL.out.1.row (.inr rfl) (XL.out.1.keep (v1 := .slice A1 f.data.length c1) XL.out.2.2.2.2.2.1 X5.out.2 HSF.out))
              obtain ⟨i29, hi29⟩ : ∃ i, Try.prog.info? 29 = some i := by
                cases h : Try.prog.info? 29 with
                | none => have := info29; rw [h] at this; simp at this
                | some i => exact ⟨i, rfl⟩
              have hz29 : i29.zero = some (.slice none 0 0) ∧ i29.size = 1 ∧ i29.bytes = 24 := by
                have := info29
                rw [hi29] at this
                simpa using this
              have H29 := Aside.mk (And.intro hi29 hz29)
              clear hi29 hz29 hcell hcell5
              have hbase6 : w1.heap.size ≤ (w6.alloc (.cells #[Value.slice A1 f.data.length c1] 29)).heap.size := by
                have h1 := Nat.le_trans XL.out.1.le (Nat.le_trans X5.out.2.size HSF.out.1.2.2.size)
                simp; omega
              go_wp2_with (at_builtin; refine goal_stop ?_)
              refine goal_go ?_
              refine wpList_append_own_at _ rfl (.tmp 71) (.tmp 73) 46 rfl w1.heap.size 29 i29 (.slice none 0 0) 1 24 Try.underlying46 H29.out.1 H29.out.2.1 H29.out.2.2.1 H29.out.2.2.2 rfl (by omega) (.slice R8 i c8) i vals rfl HRW.out ⟨w6.heap.size, 0, none⟩ 1 1 [.slice A1 f.data.length c1] rfl rfl ?_ (by intro u hu; simp at hu; subst hu; rfl) (by unfold maxLen; omega) (by omega) hbase6 ?_
              · intro j u hu
                have hj0 : j = 0 := by
                  have := (List.getElem?_eq_some_iff.1 hu).1
                  simp at this
                  omega
                subst hj0
                have hu' : u = .slice A1 f.data.length c1 := by simpa using hu.symm
                subst hu'
                rw [add_plain]
                unfold World.cell?
                rw [heap_alloc_new]
                rfl
              intro v8' w7 hown hg _ _
              obtain ⟨R8', c8', rfl, _, _⟩ := row_form hown
              obtain ⟨hL, hf0, hgd, hstr, htk, hf, hfn, hfd, hlk, hok, hsz⟩ := XL.out
              obtain ⟨D', hL'⟩ := hL.step hf hf0 (hfn.trans HNM.out.symm) hfd (by rw [HNM.out]; exact hgd) (by rw [HNM.out]; exact htk) X5.out.1 X5.out.2 HSF.out hown hg
              have HL3 := Aside.mk hL'
              clear hL hf0 hgd hstr htk hf hfn hfd hlk hok hsz hown hg hL'
              go_wp2_with fail
              go_roundg (D0.fs.length - (i + 1))
              case measure => omega
              case rel => exact ⟨i + 1, R8', c8', rfl, by omega, by go_num, rfl, ⟨_, _, HL3.out⟩⟩
            · have hin : i = D0.fs.length := by omega
              subst hin
              obtain ⟨D, vals, hL⟩ := HL2.out
              have hu := used_any D.b wr hL.at_.hb
              rw [hL.up, hL.b, HB0.out] at hu
              obtain ⟨us, hus⟩ : ∃ us, us = D.used := ⟨_, rfl⟩
              rw [if_neg (by simp), ← hus] at hu
              have HU := Aside.mk hu
              have hbt := boot_far A5 n5 c5 h5 keeps hL.at_ hL.le (HR.out.below hL.below) (fun h0 ad e => by
                have h1 := reads_lt HR.out h0 ad e
                have h2 := hL.base_
                have h3 := hL.at_.b0
                have h4 := hL.le
                refine ⟨by omega, by omega, fun f hf => ?_⟩
                have := (hL.at_.hf f hf).b0
                omega)
              rw [hL.b, HB0.out] at hbt
              have HBT := Aside.mk hbt
              have XL := Aside.mk (And.intro hL hus)
              clear hL hu hus hbt HL2
              go_wp2_with fail
              refine HU.out.mono ?_
              rintro e w7 ⟨rfl, rfl⟩
              go_wp2_with fail
              refine HBT.out.mono ?_
              rintro e w8 ⟨rfl, hb8, hfar, lb, ks', hD8, hbl⟩
              obtain ⟨hL, hus⟩ := XL.out
              have hp : pairs lb = pairs D.fs := by
                have := boot_keeps (sortN D.fs) (D.fs, keeps) hL.at_.fbs hL.synced
                rw [hbl] at this
                exact this
              have hnm := names_c hD8 rfl
              rw [show (D.booted lb).b = w1.heap.size + 1 from hL.b.trans HB0.out] at hnm
              have HNM := Aside.mk hnm
              have X8 := Aside.mk (And.intro hb8 (And.intro hfar (And.intro hD8 hp)))
              clear hb8 hfar hD8 hbl hp hnm hL hus HBT HU
              go_wp2_with fail
              refine HNM.out.mono ?_
              rintro e w9 ⟨v13, rfl, hrow, hb9⟩
              obtain ⟨hL, hus⟩ := XL.out
              obtain ⟨hb8, hfar, hD8, hp⟩ := X8.out
              have hLc := hL.done hb8 (fun i a b c => hfar i a (fun e => b (e.trans (hL.b.trans HB0.out).symm)) c) hD8 hp hrow hb9
              obtain ⟨R13, c13, rfl, hc13, _⟩ := row_form hLc.now
              have hu9 := used_any (D.booted lb).b w9 hLc.at_.hb
              rw [show (D.booted lb).down = false from rfl, if_neg (by simp), show (D.booted lb).b = w1.heap.size + 1 from hL.b.trans HB0.out, show (D.booted lb).used = us by rw [hus, hL.at_.used]; exact pairs_sum hp] at hu9
              have HU9 := Aside.mk hu9
              have XC := Aside.mk hLc
              clear hL hus hb8 hfar hD8 hp hrow hb9 hLc hu9 HNM
              go_wp2_with fail
              refine HU9.out.mono ?_
              rintro e w10 ⟨rfl, rfl⟩
              go_wp2_with fail
              go_loopg [14] D0.fs.length (fun gk v14 wr => ∃ (q : Nat), gk = D0.fs.length - q ∧ q ≤ D0.fs.length ∧ v14 = .int .i64 q ∧ Aside (Lc w wr w1.heap.size D0 (.slice R7 D0.fs.length c7) (.slice R8 D0.fs.length c8) (.slice R13 D0.fs.length c13) (D.booted lb) vals))
              case atStart => exact ⟨0, by omega, by omega, rfl, ⟨XC.out⟩⟩
              case round =>
                clear XC HU9 X8 XL
                obtain ⟨q, rfl, hq, rfl, HL3⟩ := hrel
                by_cases hqt : q < D0.fs.length
                · obtain ⟨f0, hf0, hgd, hstr, htk⟩ := name_at hqt
                  have hL := HL3.out
                  obtain ⟨ad7, rfl, hcell⟩ := row_string hL.names hstr
                  obtain ⟨ad13, rfl, hcell13⟩ := row_string hL.now hstr
                  obtain ⟨v, fw, hval, hfw, hfwn, hdw⟩ := hL.was q hqt
                  have hN0 : (D0.fs.map (·.name)).Nodup := by
                    have e : ∀ l : List FileE, l.map (·.name) = (pairs l).map (·.1) := fun l => by simp [pairs, List.map_map, Function.comp_def]
                    rw [e, ← hL.same, ← e]
                    exact hL.at_.names
                  have hfeq : fw = f0 := name_eq hN0 hfw hf0 (by rw [← nm_back fw.name, hfwn, ← hgd, nm_back])
                  subst hfeq
                  obtain ⟨R', c', e', _, hr8⟩ := row_form hL.row
                  cases e'
                  obtain ⟨ad8, rfl, hcell8⟩ := hr8 q v hval
                  obtain ⟨f, hf, hfn, hfd⟩ := pairs_mem hL.same.symm hf0
                  have hlk : look (D.booted lb).fs fw.name = some f := findIdx_mem hL.at_.names hf hfn
                  have hok : nameOk fw.name = true := by rw [← hfn]; exact hL.at_.ok f hf
                  have hrd := read_c fw.name hL.at_ (by have := nameOk_size hok; omega)
                  rw [hL.b, HB0.out] at hrd
                  have HRD := Aside.mk hrd
                  have X11 := Aside.mk (And.intro hL (And.intro hlk (And.intro hok (And.intro hfd hdw))))
                  clear hL hf0 hgd htk hfw hfwn hdw hN0 hr8 hf hfn hfd hlk hok hrd hval HL3 hstr
                  generalize fw.name = nm at *
                  go_wp2_with fail
                  refine HRD.out.mono ?_
                  rintro e w11 ⟨v1, xs, code, rfl, hd11, hb11, hx11⟩
                  obtain ⟨hL, hlk, hok, hfd, hdw⟩ := X11.out
                  obtain ⟨rfl, hxs⟩ := hx11 f rfl hok hlk
                  rw [hfd] at hxs
                  subst hxs
                  obtain ⟨A1, d1, rfl, _, hr1⟩ := hd11.reads
                  obtain ⟨A2, d2, rfl, _, hr2⟩ := (hdw.keep (KeepT.of_below hb11)).reads
                  have HSM := Aside.mk (fun n => same_q A1 A2 d1 d2 _ fw.data (w11.drewN n) (hr1.drewN n) (hr2.drewN n))
                  have k7 := cell_keep hb11 hcell
                  have k13 := cell_keep hb11 hcell13
                  have k8 := cell_keep hb11 hcell8
                  have X12 := Aside.mk (hL.later hb11)
                  clear hL hlk hok hfd hdw hd11 hb11 hx11 hr1 hr2 hcell hcell13 hcell8 HRD X11
                  have hlt8 : (q : Int) < (D0.fs.length : Int) := by omega
                  have hge0 : (0 : Int) ≤ (q : Int) := by omega
                  have hneq : (nm != nm) = false := by simp [bne, MapKept.bytes_beq]
                  go_upto_region 29 with fail
                  go_quiet (first | (go_at_call 21; exact Calls.quiet_of (HSM.out _)) | (go_at_call 21; exact (HSM.out _).mono fun e w2 ⟨a, m, b⟩ => ⟨a, _, by rw [b, World.drewN_drewN]⟩))
                  have X13 := Aside.mk (X12.out.later (show Below w11.heap.size w11 (w11.drewN nq) from pw_below_drewN (Below.refl _ _) _))
                  clear X12 HSM k7 k13 k8
                  generalize w11.drewN nq = w12 at *
                  go_wp2_with fail
                  go_roundg (D0.fs.length - (q + 1))
                  case measure => omega
                  case rel => exact ⟨q + 1, rfl, by omega, by go_num, X13⟩
                · go_wp2_with fail
                  refine (awake_c _).mono ?_
                  intro e w11 he
                  obtain ⟨rfl, hb2⟩ := early.out _ HL3.out.below e w11 he
                  have B2 := Aside.mk hb2
                  clear hb2 he
                  go_wp2
                  go_ret
                  exact ⟨rfl, B2.out⟩
end Go.Proofs.Ytajgimacecjnkaa
