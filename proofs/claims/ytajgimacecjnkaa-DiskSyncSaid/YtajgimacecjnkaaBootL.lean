/- Boot: its plain parts. -/
import Derived.Test.YtajgimacecjnkaaNames
import Derived.Test.YtajgimacecjnkaaCut
set_option linter.unusedSimpArgs false
set_option linter.unusedVariables false
namespace Go.Proofs.Ytajgimacecjnkaa
open Go.RowKit Go.Lib Go.Proofs.YtajgimacecjnkaaW.PrintWords

def cutV : Value → Nat → Value
  | .slice A _ _, n => .slice A n n
  | v, _ => v
/-- How many bytes stay of a file. -/
def stays (f : FileE) (k : Int) : Nat := ((f.data.length : Int) - (((f.data.length : Int) - f.sure) - k % (((f.data.length : Int) - f.sure) + 1))).toNat
def bootStep (p : List FileE × List Int) (nm : List UInt8) : List FileE × List Int :=
  match look p.1 ⟨nm.toArray⟩ with
  | none => p
  | some f => match p.2 with
    | [] => (upd p.1 f.fb f.v f.data f.data.length, [])
    | k :: ks => if f.sure < f.data.length then (upd p.1 f.fb (cutV f.v (stays f k)) (f.data.take (stays f k)) (stays f k), ks) else (upd p.1 f.fb f.v f.data f.data.length, k :: ks)
def Dk.booted (D : Dk) (l : List FileE) : Dk := { D with used := sumLen l, fuse := -1, down := false, fs := l }

theorem stays_le {f : FileE} (h : 0 ≤ f.sure ∧ f.sure ≤ f.data.length) (k : Int) : stays f k ≤ f.data.length ∧ f.sure ≤ stays f k ∧ (stays f k : Int) = (f.data.length : Int) - (((f.data.length : Int) - f.sure) - k % (((f.data.length : Int) - f.sure) + 1)) := by
  have h1 := Int.emod_nonneg k (show ((f.data.length : Int) - f.sure) + 1 ≠ 0 by omega)
  have h2 := Int.emod_lt_of_pos k (show 0 < ((f.data.length : Int) - f.sure) + 1 by omega)
  unfold stays
  omega

/-- The world where a file's tail goes. -/
theorem boot_cut {w : World} {base : Nat} {D : Dk} {f : FileE} (h : DiskAt w base D) (hf : f ∈ D.fs) (A : Option Addr) (c : Nat) (hv : f.v = .slice A f.data.length c) (n : Nat) (hn : n ≤ f.data.length) {w' : World}
    (hb : w'.heap[D.b]? = some (DiskObj D.room (D.used - ((f.data.length : Int) - n)) D.m D.fuse D.down)) (hfb : w'.heap[f.fb]? = some (FileObj (.slice A n n) n)) (ho : ∀ j, j ≠ D.b → j ≠ f.fb → w'.heap[j]? = w.heap[j]?) :
    DiskAt w' base { D with used := D.used - ((f.data.length : Int) - n), fs := upd D.fs f.fb (.slice A n n) (f.data.take n) n } := by
  have H := h.hf f hf
  have hcut : DataAt w base (.slice A n n) (f.data.take n) := DataAt.cut (c := c) (by rw [← hv]; exact H.own) n hn
  have hown : (Value.slice A n n).ownBlock = f.v.ownBlock := by rw [hv]; exact cut_own
  have hlen : (f.data.take n).length = n := by simp; omega
  refine h.upd hf (.slice A n n) (f.data.take n) n (D.used - ((f.data.length : Int) - n)) hb hfb ?_ ?_ (.inl hown) ?_ ?_ ?_
  · refine hcut.move fun j e => ho _ ?_ ?_
    · intro e'
      obtain ⟨cc, hcc⟩ := hcut.typed _ e
      exact obj_ne hcc h.hb (cells_ne (by decide)) e'
    · intro e'
      obtain ⟨cc, hcc⟩ := hcut.typed _ e
      exact obj_ne hcc H.hb (cells_ne (by decide)) e'
  · rw [hlen]; omega
  · intro j _ _ h1 h2 _; exact ho _ h1 h2
  · rw [hlen]; omega
  · have := h.le; omega
/-- The world where all of a file is sure. -/
theorem boot_sure {w : World} {base : Nat} {D : Dk} {f : FileE} (h : DiskAt w base D) (hf : f ∈ D.fs) {w' : World}
    (hfb : w'.heap[f.fb]? = some (FileObj f.v f.data.length)) (ho : ∀ j, j ≠ f.fb → w'.heap[j]? = w.heap[j]?) :
    DiskAt w' base { D with fs := upd D.fs f.fb f.v f.data f.data.length } := by
  have H := h.hf f hf
  have e : D.used = D.used - f.data.length + f.data.length := by omega
  have := h.upd (w' := w') hf f.v f.data f.data.length D.used ((ho _ (h.fb_ne_b hf).symm).trans h.hb) hfb (H.own.move fun j e => ho _ ?_) (by omega) (.inl rfl) (fun j _ _ _ h2 _ => ho _ h2) e h.le
  · exact this
  · intro e'
    exact h.v_ne_fb hf hf (by rw [e, e'])
theorem booted_used {w : World} {base : Nat} {D : Dk} (h : DiskAt w base D) : D.used = sumLen D.fs := h.used
end Go.Proofs.Ytajgimacecjnkaa
