/- The walk of DiskRoom. -/
import Derived.Test.YtajgimacecjnkaaDo
import Derived.Test.YtajgimacecjnkaaPDiskRoomx1
set_option linter.unusedSimpArgs false
set_option linter.unusedVariables false
namespace Go.Proofs.Ytajgimacecjnkaa
open Go.RowKit Go.Lib Go.Proofs.YtajgimacecjnkaaW.PrintWords Go.Proofs.Ytajgimacecjnkaa.PDiskRoom

/-- An act that is no great one. -/
structure Small (x : S32) : Prop where
  b : x.f3.length ≤ 100
  k : x.f5.length ≤ 100
  n : x.f1.size ≤ 100
  t : x.f2.size ≤ 100
theorem great_tells (l : List S32) (hl : l.length ≤ 9223372036854775807) : ∀ (d k : Nat) (i : Nat), i + d = 61 → 2 * d + 4 ≤ k → i ≤ l.length → i ≤ 60 →
    ∃ b, estreatlaw06_great.l0 k l i = some b ∧ (b = false → l.length ≤ 60 ∧ ∀ j, i ≤ j → j < l.length → Small (l.getD j z32)) := by
  intro d
  induction d with
  | zero => intro k i h1 h2 h3 h4; omega
  | succ d ih =>
    intro k i h1 h2 h3 h4
    obtain ⟨k, rfl⟩ : ∃ m, k = m + 2 := ⟨k - 2, by omega⟩
    simp only [estreatlaw06_great.l0]
    by_cases hlt : (i : Int) < (l.length : Int)
    · rw [if_pos hlt]
      simp only [estreatlaw06_great.j1]
      by_cases h60 : (i : Int) < 60
      · rw [decide_eq_true h60, if_pos rfl, if_pos (by omega), if_pos hlt]
        have hx : rd_T32 l i = l.getD i z32 := by unfold rd_T32; rw [Int.toNat_natCast]
        rw [hx]
        have stop : ∃ b, (some true : Option Bool) = some b ∧ (b = false → l.length ≤ 60 ∧ ∀ j, i ≤ j → j < l.length → Small (l.getD j z32)) := ⟨true, rfl, fun h => by cases h⟩
        by_cases g3 : ((l.getD i z32).f3.length : Int) > 100
        · rw [if_pos g3]; exact stop
        rw [if_neg g3]
        by_cases g5 : ((l.getD i z32).f5.length : Int) > 100
        · rw [if_pos g5]; exact stop
        rw [if_neg g5]
        by_cases g1 : ((l.getD i z32).f1.size : Int) > 100
        · rw [if_pos g1]; exact stop
        rw [if_neg g1]
        by_cases g2 : ((l.getD i z32).f2.size : Int) > 100
        · rw [if_pos g2]; exact stop
        rw [if_neg g2]
        have hw : wrap64 ((i : Int) + 1) = ((i + 1 : Nat) : Int) := by unfold wrap64; omega
        rw [hw]
        obtain ⟨b, e, hb⟩ := ih k (i + 1) (by omega) (by omega) (by omega) (by omega)
        refine ⟨b, e, fun h => ⟨(hb h).1, fun j hj hj2 => ?_⟩⟩
        by_cases e : j = i
        · subst e
          exact ⟨by omega, by omega, by omega, by omega⟩
        · exact (hb h).2 j (by omega) hj2
      · rw [decide_eq_false h60, if_neg (by simp)]
        refine ⟨_, rfl, fun h => ?_⟩
        have : ¬ (l.length : Int) > 60 := by simpa using h
        omega
    · rw [if_neg hlt]
      simp only [estreatlaw06_great.j1]
      rw [if_neg (by simp)]
      refine ⟨_, rfl, fun h => ⟨?_, fun j hj hj2 => by omega⟩⟩
      have : ¬ (l.length : Int) > 60 := by simpa using h
      omega
theorem great_c (A : Option Addr) (c : Nat) (l : List S32) (w : World) (hC : Kd.C k32 w A l.length l) (hc : l.length ≤ c) :
    Calls Try.prog 6 #[.slice A l.length c] w fun e w' => ∃ b, e = .returned (.bool b) ∧ (b = false → l.length ≤ 60 ∧ ∀ j, j < l.length → Small (l.getD j z32)) ∧ Drawn0 w w' := by
  obtain ⟨b, e, hb⟩ := great_tells l hC.2.1 61 200 0 (by omega) (by omega) (Nat.zero_le _) (by omega)
  exact (estreatlaw06_great.calls 200 A c l b w hC hc e).mono fun e w' ⟨h1, h2⟩ => ⟨b, h1, fun h => ⟨(hb h).1, fun j hj => (hb h).2 j (Nat.zero_le _) hj⟩, h2⟩

theorem reads_lt {α : Type} {enc : α → Value} {d : α} {w : World} {A : Option Addr} {n : Nat} {xs : List α} (h : ReadsOf enc d w A n xs) : 0 < n → ∀ ad, A = some ad → ad.block < w.heap.size := by
  intro h0 ad e
  obtain ⟨ad', e', hc⟩ := h.2.2 h0
  rw [e] at e'
  cases e'
  have := hc 0 h0
  have e0 : ad.add 0 = ad := by simp [Addr.add]
  rw [e0] at this
  unfold World.cell? at this
  cases hh : w.heap[ad.block]? with
  | none => rw [hh] at this; simp at this
  | some o => exact heap_lt hh

theorem cell_keep {w w' : World} {a : Addr} {v : Value} (hb : Below w.heap.size w w') (h : w.cell? a = some v) : w'.cell? a = some v := by
  refine (World.cell?_of_block (hb.block _ ?_)).trans h
  unfold World.cell? at h
  cases hh : w.heap[a.block]? with
  | none => rw [hh] at h; simp at h
  | some o => exact heap_lt hh

/-- An act of the slice, in a later world. -/
theorem act_at {w wr : World} {base : Nat} {A : Option Addr} {l : List S32} (hC : Kd.C k32 w A l.length l) (hB : Below w.heap.size w wr) (hb : w.heap.size ≤ base) (hN : ∀ x ∈ l, x.f4 ≤ 9223372036854775807) (hS : ∀ j, j < l.length → Small (l.getD j z32)) {j : Nat} (hj : j < l.length) :
    ∃ ad A3 c3 A5 c5 n3 n5 kind name to_ B n keeps, A = some ad ∧ (wr.cell? (ad.add (j * 6)) = some (.int .i64 kind) ∧ wr.cell? ⟨(ad.add (j * 6)).block, (ad.add (j * 6)).off + 1, none⟩ = some (.string name) ∧ wr.cell? ⟨(ad.add (j * 6)).block, (ad.add (j * 6)).off + 2, none⟩ = some (.string to_) ∧ wr.cell? ⟨(ad.add (j * 6)).block, (ad.add (j * 6)).off + 3, none⟩ = some (.slice A3 n3 c3) ∧ wr.cell? ⟨(ad.add (j * 6)).block, (ad.add (j * 6)).off + 4, none⟩ = some (.int .i64 n) ∧ wr.cell? ⟨(ad.add (j * 6)).block, (ad.add (j * 6)).off + 5, none⟩ = some (.slice A5 n5 c5)) ∧
      ActW wr base kind name to_ A3 n3 c3 B n A5 n5 c5 keeps := by
  obtain ⟨ad, A3, c3, A5, c5, rfl, x0, x1, x2, x3, x4, x5, l3, g3, l5, g5⟩ := at_T32 hC j (by omega) (by omega)
  have hx : rd_T32 l j = l.getD j z32 := by unfold rd_T32; rw [Int.toNat_natCast]
  have hsm := hS j hj
  have hmem : l.getD j z32 ∈ l := by rw [List.getD_eq_getElem?_getD, List.getElem?_eq_getElem hj]; exact List.getElem_mem hj
  have hn := hN _ hmem
  rw [← hx] at hsm hn
  rw [Int.toNat_natCast] at x0 x1 x2 x3 x4 x5
  have r3 : ReadsOf (Value.int .u8) 0 w A3 _ _ := Kd.reads_of_C g3
  have r5 : ReadsOf (Value.int .i64) 0 w A5 _ _ := Kd.reads_of_C g5
  exact ⟨ad, A3, c3, A5, c5, _, _, _, _, _, _, _, _, rfl, ⟨cell_keep hB x0, cell_keep hB x1, cell_keep hB x2, cell_keep hB x3, cell_keep hB x4, cell_keep hB x5⟩,
    ⟨r3.below hB, fun h0 a e => by have := reads_lt r3 h0 a e; omega, r5.below hB, fun h0 a e => by have := reads_lt r5 h0 a e; omega, l5, by have := hsm.n; omega, by have := hsm.t; omega, hn⟩⟩

set_option maxRecDepth 100000 in
theorem diskRoom_c (room : Int) (hr0 : 0 ≤ room) (hr1 : room ≤ 255) (A : Option Addr) (c : Nat) (l : List S32) (w : World) (hC : Kd.C k32 w A l.length l) (hc : l.length ≤ c) (hn : ∀ x ∈ l, x.f4 ≤ 9223372036854775807) :
    Calls Try.prog 3 #[.int .u8 room, .slice A l.length c] w fun e w' => e = .returned (.bool true) ∧ Below w.heap.size w w' := by
  have HG := Aside.mk (great_c A c l w hC hc)
  have HC := Aside.mk hC
  have HN := Aside.mk hn
  clear hC hn
  go_enter Try.func3, Try.ntmps3
  go_wp2_with fail
  refine HG.out.mono ?_
  rintro e w1 ⟨b, rfl, hb, hd⟩
  have HB1 := Aside.mk hd.below
  clear hd
  cases b with
  | true =>
    go_wp2_with fail
    refine (awake_c _).mono ?_
    rintro e w2 ⟨rfl, hb2⟩
    have B2 := Aside.mk (HB1.out.trans (hb2.mono HB1.out.size))
    clear hb2
    go_wp2
    go_ret
    exact ⟨rfl, B2.out⟩
  | false =>
    have HS := Aside.mk (hb rfl)
    clear hb
    go_wp2_with fail
    refine (new_good room w1 hr0 (by omega)).mono ?_
    rintro e w2 ⟨rfl, rfl⟩
    have hD := new_at w1 room hr0 (by omega)
    have hBn := HB1.out.trans ((new_below w1 room).mono HB1.out.size)
    generalize (w1.alloc (.map #[] 0)).alloc (DiskObj room 0 w1.heap.size (-1) false) = w2 at *
    have HD := Aside.mk (And.intro hD hBn)
    clear hD hBn
    go_wp2_with fail
    go_loopg [6] l.length (fun gk v6 wr => ∃ j : Nat, gk = l.length - j ∧ j ≤ l.length ∧ v6 = .int .i64 j ∧ Aside (∃ D, DiskAt wr w1.heap.size D ∧ D.b = w1.heap.size + 1 ∧ D.room = room ∧ Below w.heap.size w wr ∧ w1.heap.size ≤ wr.heap.size))
    case atStart =>
      exact ⟨0, by omega, by omega, rfl, ⟨_, HD.out.1, rfl, rfl, HD.out.2, by have : w1.heap.size + 1 < w2.heap.size := heap_lt HD.out.1.hb; omega⟩⟩
    case round =>
      obtain ⟨j, rfl, hj, rfl, HL⟩ := hrel
      have h60 : l.length ≤ 60 := HS.out.1
      by_cases hlt : j < l.length
      · obtain ⟨D, hD, hDb, hDr, hBr, hle⟩ := HL.out
        obtain ⟨ad, A3, c3, A5, c5, n3, n5, kind, name, to_, B, n, keeps, rfl, ⟨x0, x1, x2, x3, x4, x5⟩, ha⟩ := act_at HC.out hBr HB1.out.size HN.out HS.out.2 hlt
        have hu0 := used_any D.b wr hD.hb
        obtain ⟨us, hus⟩ : ∃ us : Int, us = if D.down then 0 else D.used := ⟨_, rfl⟩
        rw [← hus] at hu0
        have HU := Aside.mk hu0
        have HUS := Aside.mk hus
        have HDo := Aside.mk (do_c hD hle ha)
        rw [hDb] at HU HDo
        have X := Aside.mk (And.intro hD (And.intro hDb (And.intro hDr (And.intro hBr hle))))
        clear hD hDb hDr hBr hle ha HL hu0 hus
        go_wp2_with fail
        refine HU.out.mono ?_
        rintro e w3 ⟨rfl, rfl⟩
        go_wp2_with fail
        refine HDo.out.mono ?_
        rintro e w3 ⟨code, D', rfl, hD', hb', hs, h7⟩
        have hu1 := used_any D'.b w3 hD'.hb
        obtain ⟨us2, hus2⟩ : ∃ us : Int, us = if D'.down then 0 else D'.used := ⟨_, rfl⟩
        rw [← hus2] at hu1
        rw [hs.b, X.out.2.1] at hu1
        have hle2 : us2 ≤ room := by
          have := hD'.le
          rw [hs.room, X.out.2.2.1] at this
          rw [hus2]; split <;> omega
        have HU2 := Aside.mk hu1
        have h78 : code = 7 → us2 = us := fun e => by
          have := h7 e
          rw [hus2, HUS.out, this.1, this.2]
        have X2 := Aside.mk (show ∃ D, DiskAt w3 w1.heap.size D ∧ D.b = w1.heap.size + 1 ∧ D.room = room ∧ Below w.heap.size w w3 ∧ w1.heap.size ≤ w3.heap.size from
          ⟨D', hD', hs.b.trans X.out.2.1, hs.room.trans X.out.2.2.1, X.out.2.2.2.1.trans (hb'.mono HB1.out.size), by have := hb'.size; have := X.out.2.2.2.2; omega⟩)
        have hgt : decide (room < us2) = false := by simp; omega
        clear hu1 hus2 hle2 hD' hb' hs h7
        by_cases hc7 : code = 7
        · have hne : (us2 != us) = false := by simp [h78 hc7]
          subst hc7
          clear h78
          go_wp2_with fail
          refine HU2.out.mono ?_
          rintro e w4 ⟨rfl, rfl⟩
          go_wp2_with fail
          refine HU2.out.mono ?_
          rintro e w4 ⟨rfl, rfl⟩
          go_wp2_with fail
          go_roundg (l.length - (j + 1))
          case measure => omega
          case rel => exact ⟨j + 1, rfl, by omega, by go_num, X2⟩
        · have hne : (code == 7) = false := by simpa using hc7
          clear h78 hc7
          go_wp2_with fail
          refine HU2.out.mono ?_
          rintro e w4 ⟨rfl, rfl⟩
          go_wp2_with fail
          go_roundg (l.length - (j + 1))
          case measure => omega
          case rel => exact ⟨j + 1, rfl, by omega, by go_num, X2⟩
      · go_wp2_with fail
        refine (awake_c _).mono ?_
        rintro e w3 ⟨rfl, hb3⟩
        obtain ⟨D, hD, hDb, hDr, hBr, hle⟩ := HL.out
        have B2 := Aside.mk (hBr.trans (hb3.mono hBr.size))
        clear hb3 hD hDb hDr hBr hle
        go_wp2
        go_ret
        exact ⟨rfl, B2.out⟩
end Go.Proofs.Ytajgimacecjnkaa
