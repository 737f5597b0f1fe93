/- disk.put in one; Append. -/
import Derived.Test.YtajgimacecjnkaaPut
set_option linter.unusedSimpArgs false
set_option linter.unusedVariables false
namespace Go.Proofs.Ytajgimacecjnkaa
open Go.RowKit Go.Lib Go.Proofs.YtajgimacecjnkaaW.PrintWords

/-- A file as the document sees it: its name, its bytes, how many are sure. -/
abbrev AF := ByteArray × List Int × Int
def absF (fs : List FileE) : List AF := fs.map fun f => (f.name, f.data, f.sure)
def putA (l : List AF) (name : ByteArray) (ys : List Int) : List AF := if l.any (fun x => x.1 == name) then l.map (fun x => if x.1 = name then (x.1, x.2.1 ++ ys, x.2.2) else x) else l ++ [(name, ys, 0)]
/-- What all deeds leave as it was. -/
structure Same (D D' : Dk) : Prop where
  b : D'.b = D.b
  m : D'.m = D.m
  room : D'.room = D.room

theorem name_eq {fs : List FileE} (h : (fs.map (·.name)).Nodup) {f g : FileE} (hf : f ∈ fs) (hg : g ∈ fs) (e : f.name = g.name) : f = g := by
  induction fs with
  | nil => cases hf
  | cons a r ih =>
    simp only [List.map_cons, List.nodup_cons] at h
    rcases List.mem_cons.1 hf with rfl | hf'
    · rcases List.mem_cons.1 hg with rfl | hg'
      · rfl
      · exact absurd (List.mem_map.2 ⟨g, hg', e.symm⟩) h.1
    · rcases List.mem_cons.1 hg with rfl | hg'
      · exact absurd (List.mem_map.2 ⟨f, hf', e⟩) h.1
      · exact ih h.2 hf' hg'
/-- A file's turn, by its name. -/
theorem abs_upd {w : World} {base : Nat} {D : Dk} (h : DiskAt w base D) {f : FileE} (hf : f ∈ D.fs) (v : Value) (data : List Int) (sure : Int) :
    absF (upd D.fs f.fb v data sure) = (absF D.fs).map fun x => if x.1 = f.name then (x.1, data, sure) else x := by
  unfold absF upd
  rw [List.map_map, List.map_map]
  refine List.map_congr_left fun g hg => ?_
  simp only [Function.comp]
  by_cases e : g.fb = f.fb
  · obtain rfl := nodup_eq h.fbs hg hf e
    simp
  · have hne : g.name ≠ f.name := fun e' => e (by rw [name_eq h.names hg hf e'])
    rw [if_neg e, if_neg hne]
theorem look_any {fs : List FileE} {name : ByteArray} {f : FileE} (h : look fs name = some f) : (absF fs).any (fun x => x.1 == name) = true := by
  obtain ⟨h1, h2⟩ := look_mem h
  exact List.any_eq_true.2 ⟨(f.name, f.data, f.sure), List.mem_map.2 ⟨f, h1, rfl⟩, (MapKept.bytes_beq _ _).2 h2⟩
theorem look_none_any {fs : List FileE} {name : ByteArray} (h : look fs name = none) : (absF fs).any (fun x => x.1 == name) = false := by
  rw [List.any_eq_false]
  intro x hx
  obtain ⟨f, hf, rfl⟩ := List.mem_map.1 hx
  intro e
  exact look_none h f hf ((MapKept.bytes_beq _ _).1 e)

/-- put, all its ways. -/
theorem put_any {w : World} {base : Nat} {D : Dk} (name : ByteArray) (A : Option Addr) (m c : Nat) (ys : List Int) (h : DiskAt w base D) (hbase : base ≤ w.heap.size) (HR : ReadsOf (Value.int .u8) 0 w A m ys) (hs : name.size ≤ 9223372036854775807) :
    Calls Try.prog 29 #[.pointer (some ⟨D.b, 0, none⟩), .string name, .slice A m c] w fun e w' => ∃ code D', e = .returned (.int .i64 code) ∧ DiskAt w' base D' ∧ Below base w w' ∧ Same D D' ∧ D'.fuse = D.fuse ∧ D'.down = D.down ∧
      (code = 7 → D'.used = D.used) ∧ (nameOk name = true → D.fs.length < 65536 → (m : Int) ≤ D.room - D.used → code = 0 ∧ absF D'.fs = putA (absF D.fs) name ys ∧ D'.used = D.used + m) := by
  have keep : ∀ (code : Int) (w' : World), Below w.heap.size w w' → (nameOk name = true → D.fs.length < 65536 → (m : Int) ≤ D.room - D.used → False) → ∃ code' D', Ending.returned (.int .i64 code) = .returned (.int .i64 code') ∧ DiskAt w' base D' ∧ Below base w w' ∧ Same D D' ∧ D'.fuse = D.fuse ∧ D'.down = D.down ∧
      (code' = 7 → D'.used = D.used) ∧ (nameOk name = true → D.fs.length < 65536 → (m : Int) ≤ D.room - D.used → code' = 0 ∧ absF D'.fs = putA (absF D.fs) name ys ∧ D'.used = D.used + m) :=
    fun code w' hb hno => ⟨code, D, rfl, h.below hb, hb.mono hbase, ⟨rfl, rfl, rfl⟩, rfl, rfl, fun _ => rfl, fun a b c => (hno a b c).elim⟩
  by_cases hn : nameOk name = true
  case neg => exact (put_name name _ h hs (by simpa using hn)).mono fun e w' ⟨he, hb⟩ => by subst he; exact keep 1 w' hb (fun a => absurd a hn)
  case pos =>
    by_cases hcr : crowded D name
    · exact (put_full name _ h hs hn hcr.1 hcr.2).mono fun e w' ⟨he, hb⟩ => by subst he; exact keep 12 w' hb (fun _ b => by have := hcr.2; omega)
    · by_cases hfit : (m : Int) ≤ D.room - D.used
      · cases hk : look D.fs name with
        | some f =>
          refine (put_add name A m c ys h hbase HR hs hn f hk hfit).mono fun e w' ⟨he, v, hd, hb⟩ => ?_
          refine ⟨0, _, he, hd, hb, ⟨rfl, rfl, rfl⟩, rfl, rfl, fun h => by simp at h, fun _ _ _ => ⟨rfl, ?_, rfl⟩⟩
          show absF (upd D.fs f.fb v (f.data ++ ys) f.sure) = _
          rw [abs_upd h (look_mem hk).1, putA, if_pos (look_any hk)]
          refine List.map_congr_left fun x hx => ?_
          obtain ⟨g, hg, rfl⟩ := List.mem_map.1 hx
          rw [(look_mem hk).2]
          by_cases e : g.name = name
          · obtain rfl := name_eq h.names hg (look_mem hk).1 (by rw [e, (look_mem hk).2])
            rfl
          · simp [e]
        | none =>
          have hcnt : D.fs.length < 65536 := by
            have := h.cnt
            rcases Nat.lt_or_ge D.fs.length 65536 with h1 | h1
            · exact h1
            · exact absurd ⟨hk, by omega⟩ hcr
          refine (put_new name A m c ys h hbase HR hs hn hk hcnt hfit).mono fun e w' ⟨he, f, h1, h2, h3, hd, hb⟩ => ?_
          refine ⟨0, _, he, hd, hb, ⟨rfl, rfl, rfl⟩, rfl, rfl, fun h => by simp at h, fun _ _ _ => ⟨rfl, ?_, rfl⟩⟩
          show absF (D.fs ++ [f]) = _
          rw [putA, look_none_any hk]
          simp [absF, h1, h2, h3]
      · exact (put_big name A m c HR.2.1 h hs hn hcr (by omega)).mono fun e w' ⟨he, hb⟩ => by subst he; exact keep 7 w' hb (fun _ _ a => hfit a)

/-- spent: the fuse burns. -/
def burnt (fuse : Int) : Int := if 0 < fuse then fuse - 1 else fuse
theorem spent_c {w : World} {base : Nat} {D : Dk} (h : DiskAt w base D) :
    Calls Try.prog 28 #[.pointer (some ⟨D.b, 0, none⟩)] w fun e w' => e = .returned (.bool (D.fuse == 0)) ∧ DiskAt w' base { D with fuse := burnt D.fuse } ∧ Below base w w' ∧ ∀ k, k ≠ D.b → w'.heap[k]? = w.heap[k]? := by
  have hf := h.fuse
  by_cases hp : 0 < D.fuse
  · refine (spent_pos D.b w h.hb hp hf.2).mono fun e w' ⟨he, hw⟩ => ?_
    subst hw
    refine ⟨by rw [he]; congr 2; symm; simp; omega, ?_, (Below.refl _ _).setCell h.b0 _, fun k hk => Below.heap_setCell _ _ _ _ hk⟩
    have e : burnt D.fuse = D.fuse - 1 := if_pos hp
    rw [e]
    exact h.nums D.used (D.fuse - 1) D.down (disk_set3 h.hb _) (fun k _ _ hk => Below.heap_setCell _ _ _ _ hk) rfl (by omega)
  · refine (spent_neg D.b w h.hb (by omega)).mono fun e w' ⟨he, hw⟩ => ?_
    subst hw
    have e : burnt D.fuse = D.fuse := if_neg hp
    rw [e]
    exact ⟨he, h, Below.refl _ _, fun _ _ => rfl⟩
theorem fail_c {w : World} {base : Nat} {D : Dk} (h : DiskAt w base D) :
    Calls Try.prog 30 #[.pointer (some ⟨D.b, 0, none⟩)] w fun e w' => e = .returned (.int .i64 15) ∧ DiskAt w' base { D with down := true } ∧ Below base w w' := by
  refine (fail_any D.b w h.hb).mono fun e w' ⟨he, hw⟩ => ?_
  subst hw
  exact ⟨he, h.nums D.used D.fuse true (disk_set4 h.hb _) (fun k _ _ hk => Below.heap_setCell _ _ _ _ hk) rfl h.fuse, (Below.refl _ _).setCell h.b0 _⟩

theorem reads_but {w w' : World} {A : Option Addr} {n : Nat} {ys : List Int} {b : Nat} (h : ReadsOf (Value.int .u8) 0 w A n ys) (hb : ∀ k, k ≠ b → w'.heap[k]? = w.heap[k]?) (hA : ∀ ad, A = some ad → 0 < n → ad.block ≠ b) : ReadsOf (Value.int .u8) 0 w' A n ys :=
  ⟨h.1, h.2.1, fun h0 => by
    obtain ⟨ad, e, hc⟩ := h.2.2 h0
    refine ⟨ad, e, fun j hj => ?_⟩
    rw [← hc j hj]
    refine World.cell?_of_block (w := w) (hb _ ?_)
    have := hA ad e h0
    unfold Addr.add; split <;> exact this⟩

/-- Append: what it answers, and what it leaves. -/
def AppendRel (D D' : Dk) (name : ByteArray) (ys : List Int) (m : Nat) (code : Int) : Prop :=
  Same D D' ∧ (code = 7 → D'.used = D.used ∧ D'.down = D.down) ∧ (D.down = false → D.fuse = -1 → nameOk name = true → D.fs.length < 65536 → (m : Int) ≤ D.room - D.used → code = 0 ∧ absF D'.fs = putA (absF D.fs) name ys ∧ D'.used = D.used + m ∧ D'.fuse = -1 ∧ D'.down = false)
theorem append_c {w : World} {base : Nat} {D : Dk} (name : ByteArray) (A : Option Addr) (m c : Nat) (ys : List Int) (h : DiskAt w base D) (hbase : base ≤ w.heap.size) (HR : ReadsOf (Value.int .u8) 0 w A m ys) (hA : ∀ ad, A = some ad → 0 < m → ad.block ≠ D.b) (hs : name.size ≤ 9223372036854775807) :
    Calls Try.prog 14 #[.pointer (some ⟨D.b, 0, none⟩), .string name, .slice A m c] w fun e w' => ∃ code D', e = .returned (.int .i64 code) ∧ DiskAt w' base D' ∧ Below base w w' ∧ AppendRel D D' name ys m code := by
  have c4 := (dcells h.hb).c4
  cases hd : D.down with
  | true =>
    rw [hd] at c4
    have HD := Aside.mk h
    have HX := Aside.mk hd
    clear h hd
    go_enter Try.func14, Try.ntmps14
    go_wp2
    go_ret
    exact ⟨15, D, rfl, HD.out, Below.refl _ _, ⟨rfl, rfl, rfl⟩, fun h => by simp at h, fun a => by rw [HX.out] at a; cases a⟩
  | false =>
    rw [hd] at c4
    have HS := Aside.mk (spent_c h)
    have HX := Aside.mk hd
    have HR := Aside.mk HR
    have HA := Aside.mk hA
    have HD := Aside.mk h
    cases hz : (D.fuse == 0) with
    | true =>
      rw [hz] at HS
      have HZ := Aside.mk hz
      clear h hd hz hA
      go_enter Try.func14, Try.ntmps14
      go_wp2_with fail
      refine HS.out.mono ?_
      rintro e w1 ⟨rfl, hd1, hb1, hk1⟩
      have HB1 := Aside.mk hb1
      have HP := Aside.mk (put_any name A m c ys hd1 (Nat.le_trans hbase hb1.size) (reads_but HR.out hk1 HA.out) hs)
      clear hd1 hb1 hk1 c4
      go_wp2_with fail
      refine HP.out.mono ?_
      rintro e w2 ⟨code, D2, rfl, hd2, hb2, hs2, hf2, hdn2, h72, hok2⟩
      have HF := Aside.mk (fail_c hd2)
      rw [show D2.b = D.b from hs2.b] at HF
      have HB2 := Aside.mk hb2
      have HS2 := Aside.mk hs2
      clear hd2 hb2 hs2 hf2 hdn2 h72 hok2
      go_wp2_with fail
      refine HF.out.mono ?_
      rintro e w3 ⟨rfl, hd3, hb3⟩
      have HD3 := Aside.mk hd3
      have HB3 := Aside.mk hb3
      clear hd3 hb3
      go_wp2
      go_ret
      refine ⟨15, _, rfl, HD3.out, (HB1.out.trans HB2.out).trans HB3.out, ⟨rfl, HS2.out.m, HS2.out.room⟩, fun h => by simp at h, fun _ a => ?_⟩
      have := HZ.out
      rw [a] at this
      simp at this
    | false =>
      rw [hz] at HS
      clear h hd hz hA
      go_enter Try.func14, Try.ntmps14
      go_wp2_with fail
      refine HS.out.mono ?_
      rintro e w1 ⟨rfl, hd1, hb1, hk1⟩
      have HB1 := Aside.mk hb1
      have HP := Aside.mk (put_any name A m c ys hd1 (Nat.le_trans hbase hb1.size) (reads_but HR.out hk1 HA.out) hs)
      clear hd1 hb1 hk1 c4
      go_wp2_with fail
      refine HP.out.mono ?_
      rintro e w2 ⟨code, D2, rfl, hd2, hb2, hs2, hf2, hdn2, h72, hok2⟩
      have H2 := Aside.mk (And.intro hd2 (And.intro hb2 (And.intro hs2 (And.intro hf2 (And.intro hdn2 (And.intro h72 hok2))))))
      clear hd2 hb2 hs2 hf2 hdn2 h72 hok2
      go_wp2
      go_ret
      obtain ⟨hd2, hb2, hs2, hf2, hdn2, h72, hok2⟩ := H2.out
      refine ⟨code, D2, rfl, hd2, HB1.out.trans hb2, ⟨hs2.b, hs2.m, hs2.room⟩, fun h => ⟨h72 h, hdn2⟩, fun a b c d e => ?_⟩
      obtain ⟨q1, q2, q3⟩ := hok2 c d e
      refine ⟨q1, q2, q3, ?_, hdn2.trans a⟩
      rw [hf2]
      show burnt D.fuse = -1
      rw [b]; rfl
end Go.Proofs.Ytajgimacecjnkaa
