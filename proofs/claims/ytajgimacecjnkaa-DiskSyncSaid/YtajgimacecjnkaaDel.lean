/- Sync, Delete. -/
import Derived.Test.YtajgimacecjnkaaDeed
import Derived.Test.YtajgimacecjnkaaClo
set_option linter.unusedSimpArgs false
set_option linter.unusedVariables false
namespace Go.Proofs.Ytajgimacecjnkaa
open Go.RowKit Go.Lib Go.Proofs.YtajgimacecjnkaaW.PrintWords

/-- What a deed answers and leaves, where no more need be known. -/
def Deed (w : World) (base : Nat) (D : Dk) (e : Ending) (w' : World) : Prop := ∃ code D', e = .returned (.int .i64 code) ∧ DiskAt w' base D' ∧ Below base w w' ∧ Same D D' ∧ code ≠ 7
theorem deedNo_deed {w : World} {base : Nat} {D : Dk} {name : ByteArray} {e : Ending} {w' : World} (h : DeedNo w base D name e w') : Deed w base D e w' := by
  obtain ⟨code, D', h1, h2, h3, h4, _, _, _, h7, _⟩ := h
  exact ⟨code, D', h1, h2, h3, h4, h7⟩

theorem enter_fn {P : Program} {f : FuncId} {fn : Func} {c : Code} (hf : P.funcs[f]? = some fn) (hname : (fn.name == "runtime.NumGoroutine") = false) (hb : fn.body = some c) (args : Array Value) (w : World) :
    (callFunc f args).run P w = .ok (.enter f args) w := by
  have h1 : fn.name ≠ "runtime.NumGoroutine" := by simpa using hname
  simp [callFunc, hf, h1, hb]
theorem enter32 (args : Array Value) (w : World) : (callFunc 32 args).run Try.prog w = .ok (.enter 32 args) w := enter_fn Try.func32 (by kernel_rfl) rfl args w
theorem enter33 (args : Array Value) (w : World) : (callFunc 33 args).run Try.prog w = .ok (.enter 33 args) w := enter_fn Try.func33 (by kernel_rfl) rfl args w
theorem enter36 (args : Array Value) (w : World) : (callFunc 36 args).run Try.prog w = .ok (.enter 36 args) w := enter_fn Try.func36 (by kernel_rfl) rfl args w
theorem enter37 (args : Array Value) (w : World) : (callFunc 37 args).run Try.prog w = .ok (.enter 37 args) w := enter_fn Try.func37 (by kernel_rfl) rfl args w

/-- Sync. -/
def SyncYes (w : World) (base : Nat) (D : Dk) (f : FileE) (e : Ending) (w' : World) : Prop :=
  e = .returned (.int .i64 0) ∧ DiskAt w' base { D with fuse := burnt D.fuse, fs := upd D.fs f.fb f.v f.data f.data.length } ∧ Below base w w'
def SyncRel (w : World) (base : Nat) (D : Dk) (name : ByteArray) (e : Ending) (w' : World) : Prop :=
  DeedNo w base D name e w' ∨ ∃ f, look D.fs name = some f ∧ D.down = false ∧ D.fuse ≠ 0 ∧ SyncYes w base D f e w'
theorem sync_c {w : World} {base : Nat} {D : Dk} (name : ByteArray) (h : DiskAt w base D) (hbase : base ≤ w.heap.size) (hs : name.size ≤ 9223372036854775807) :
    Calls Try.prog 15 #[.pointer (some ⟨D.b, 0, none⟩), .string name] w (SyncRel w base D name) := by
  have HC := Aside.mk (deed_c name 32 #[] (SyncYes w base D) h hbase hs enter32 (fun f e w' hr => ⟨_, hr.1⟩) (fun f w2 hl hd hz hD hb hk => by
    have h1 := sync1 hD (look_mem hl).1
    simp only [Array.append_empty]
    exact h1.mono fun e w' ⟨a, b, c⟩ => ⟨a, b, hb.trans c⟩))
  clear h
  go_enter Try.func15, Try.ntmps15
  go_wp2_with fail
  refine HC.out.mono ?_
  rintro e w1 hr
  have hv : ∃ v, e = .returned v := by
    rcases hr with ⟨code, D', h1, _⟩ | ⟨f, _, _, _, h1, _⟩
    · exact ⟨_, h1⟩
    · exact ⟨_, h1⟩
  obtain ⟨v, rfl⟩ := hv
  have HR := Aside.mk hr
  clear hr
  go_wp2
  go_ret
  exact HR.out

set_option maxRecDepth 100000 in
/-- Delete. -/
theorem delete1 {w : World} {base : Nat} {D : Dk} {f : FileE} (name : ByteArray) (h : DiskAt w base D) (hbase : base ≤ w.heap.size) (hl : look D.fs name = some f) (bd bn : Nat) (hd : w.cell? ⟨bd, 0, none⟩ = some (.pointer (some ⟨D.b, 0, none⟩))) (hn : w.cell? ⟨bn, 0, none⟩ = some (.string name)) :
    Calls Try.prog 36 #[.pointer (some ⟨f.fb, 0, none⟩), .pointer (some ⟨bd, 0, none⟩), .pointer (some ⟨bn, 0, none⟩)] w fun e w' => e = .returned (.int .i64 0) ∧ ∃ D', DiskAt w' base D' ∧ Below base w w' ∧ Same D D' := by
  obtain ⟨j, hj, hjf⟩ := look_index hl
  have HC := Aside.mk (remove_some name h hbase hl j hj hjf)
  clear h hl hj hjf
  go_enter Try.func36, Try.ntmps36
  go_wp2_with fail
  refine HC.out.mono ?_
  rintro e w1 ⟨rfl, h1, h2, h3⟩
  have H := Aside.mk (And.intro h1 h2)
  clear h1 h2 h3
  go_wp2
  go_ret
  exact ⟨rfl, _, H.out.1, H.out.2, ⟨rfl, rfl, rfl⟩⟩
theorem delete_c {w : World} {base : Nat} {D : Dk} (name : ByteArray) (h : DiskAt w base D) (hbase : base ≤ w.heap.size) (hs : name.size ≤ 9223372036854775807) :
    Calls Try.prog 17 #[.pointer (some ⟨D.b, 0, none⟩), .string name] w (Deed w base D) := by
  have hb2 : Below w.heap.size w ((w.alloc (.cells #[.pointer (some ⟨D.b, 0, none⟩)] 25)).alloc (.cells #[.string name] 9)) := below_alloc (below_alloc (Below.refl _ _) _) _
  have hD2 := h.below hb2
  have hlt := heap_lt h.hb
  have HC := Aside.mk (deed_c name 36 #[.pointer (some ⟨w.heap.size, 0, none⟩), .pointer (some ⟨w.heap.size + 1, 0, none⟩)] (fun _ e w' => Deed w base D e w') hD2 (by simp; omega) hs enter36 (fun f e w' hr => by obtain ⟨code, D', h1, _⟩ := hr; exact ⟨_, h1⟩) (fun f w2 hl hd hz hD hb hk => by
    have k1 : w2.heap[w.heap.size]? = _ := hk w.heap.size (by simp; omega) (by omega)
    have k2 : w2.heap[w.heap.size + 1]? = _ := hk (w.heap.size + 1) (by simp) (by omega)
    have h1 := delete1 name hD (by have := hb.size; simp at this; omega) hl w.heap.size (w.heap.size + 1)
      (by refine (World.cell?_of_block (a := ⟨w.heap.size, 0, none⟩) k1).trans ?_; simp) (by refine (World.cell?_of_block (a := ⟨w.heap.size + 1, 0, none⟩) k2).trans ?_; simp)
    exact h1.mono fun e w' ⟨a, D', b, c, d⟩ => ⟨0, D', a, b, ((hb2.mono hbase).trans hb).trans c, ⟨d.b, d.m, d.room⟩, by decide⟩))
  have HBB := Aside.mk hb2
  clear h hb2 hD2
  go_enter Try.func17, Try.ntmps17
  go_wp2_with fail
  refine HC.out.mono ?_
  rintro e w1 hr
  have hr2 : Deed w base D e w1 := by
    rcases hr with hr | ⟨f, _, _, _, hr⟩
    · obtain ⟨code, D', h1, h2, h3, h4, h5⟩ := deedNo_deed hr
      exact ⟨code, D', h1, h2, (HBB.out.mono hbase).trans h3, h4, h5⟩
    · exact hr
  obtain ⟨v, rfl⟩ : ∃ v, e = .returned v := by obtain ⟨code, D', h1, _⟩ := hr2; exact ⟨_, h1⟩
  have HR := Aside.mk hr2
  clear hr hr2
  go_wp2
  go_ret
  exact HR.out
end Go.Proofs.Ytajgimacecjnkaa
