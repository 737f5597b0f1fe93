/- The words of the disk's proofs: what a disk is in memory, and the laws of its map. -/
import Derived.Test.YtajgimacecjnkaaProg
import Derived.Test.YtajgimacecjnkaaWWords
import Derived.Test.YtajgimacecjnkaaData
import Derived.WalkLawsBesides
import Derived.WalkSpells
import Derived.Lib.ConvBytes
import Derived.Maps.Keyed
set_option linter.unusedSimpArgs false
set_option linter.unusedVariables false
namespace Go.Proofs.Ytajgimacecjnkaa
open Go.RowKit Go.Lib Go.Proofs.YtajgimacecjnkaaW.PrintWords

/-- A fact that the walk's simp doesn't look into. -/
structure Aside (p : Prop) : Prop where mk :: (out : p)
theorem ret_bool {a b : Bool} (h : a = b) : Ending.returned (.bool a) = Ending.returned (.bool b) := by rw [h]
theorem ret_i64 {a b : Int} (h : a = b) : Ending.returned (.int .i64 a) = Ending.returned (.int .i64 b) := by rw [h]

/-! ### Names -/
def okByte (c : Int) : Bool := (97 ≤ c && c ≤ 122) || (48 ≤ c && c ≤ 57) || c == 45 || c == 46
def chars (s : ByteArray) : List Int := s.data.toList.map fun c => (c.toNat : Int)
def nameOk (s : ByteArray) : Bool := (chars s).all okByte && (1 ≤ s.size && s.size ≤ 32 : Bool)
theorem okByte_t (c : Int) : okByte c = true ↔ (97 ≤ c ∧ c ≤ 122) ∨ (48 ≤ c ∧ c ≤ 57) ∨ c = 45 ∨ c = 46 := by simp [okByte, or_assoc]
theorem okByte_f (c : Int) : okByte c = false ↔ ¬ ((97 ≤ c ∧ c ≤ 122) ∨ (48 ≤ c ∧ c ≤ 57) ∨ c = 45 ∨ c = 46) := by rw [← okByte_t]; simp
theorem take_succ_all (l : List Int) (p : Int → Bool) (k : Nat) (h : k < l.length) (a : (l.take k).all p = true) (b : p l[k] = true) : (l.take (k + 1)).all p = true := by
  rw [List.take_succ_eq_append_getElem h, List.all_append, a]; simp [b]
theorem chars_len (s : ByteArray) : (chars s).length = s.size := by simp [chars]
theorem chars_get (s : ByteArray) (k : Nat) (h : k < s.size) : (chars s)[k]'(by rw [chars_len]; exact h) = ((s.data.toList.getD k 0).toNat : Int) := by
  simp [chars, List.getD, h]
theorem all_false (l : List Int) (p : Int → Bool) (k : Nat) (h : k < l.length) (b : p l[k] = false) : l.all p = false := by
  rw [List.all_eq_false]; exact ⟨l[k], List.getElem_mem h, by simp [b]⟩

/-! ### The disk's own block -/
def DiskObj (room used : Int) (m : Nat) (fuse : Int) (down : Bool) : Obj := .cells #[.int .i64 room, .int .i64 used, .map (some m), .int .i64 fuse, .bool down] 51 (0, 0)
structure DCells (w : World) (b : Nat) (room used : Int) (m : Nat) (fuse : Int) (down : Bool) : Prop where
  c0 : w.cell? ⟨b, 0, none⟩ = some (.int .i64 room)
  c1 : w.cell? ⟨b, 1, none⟩ = some (.int .i64 used)
  c2 : w.cell? ⟨b, 2, none⟩ = some (.map (some m))
  c3 : w.cell? ⟨b, 3, none⟩ = some (.int .i64 fuse)
  c4 : w.cell? ⟨b, 4, none⟩ = some (.bool down)
  f1 : w.frozen? ⟨b, 1, none⟩ = false
  f3 : w.frozen? ⟨b, 3, none⟩ = false
  f4 : w.frozen? ⟨b, 4, none⟩ = false
theorem dcells {w : World} {b : Nat} {room used : Int} {m : Nat} {fuse : Int} {down : Bool} (h : w.heap[b]? = some (DiskObj room used m fuse down)) : DCells w b room used m fuse down := by
  constructor <;> simp [World.cell?, World.frozen?, h, DiskObj]

/-! ### Files -/
structure FileE where
  name : ByteArray
  fb : Nat
  v : Value
  data : List Int
  sure : Int
  born : Nat
def FileObj (v : Value) (sure : Int) : Obj := .cells #[v, .int .i64 sure] 58 (0, 0)
structure FCells (w : World) (b : Nat) (v : Value) (sure : Int) : Prop where
  c0 : w.cell? ⟨b, 0, none⟩ = some v
  c1 : w.cell? ⟨b, 1, none⟩ = some (.int .i64 sure)
  f0 : w.frozen? ⟨b, 0, none⟩ = false
  f1 : w.frozen? ⟨b, 1, none⟩ = false
theorem fcells {w : World} {b : Nat} {v : Value} {sure : Int} (h : w.heap[b]? = some (FileObj v sure)) : FCells w b v sure := by
  constructor <;> simp [World.cell?, World.frozen?, h, FileObj]
structure FileAt (w : World) (base : Nat) (f : FileE) : Prop where
  hb : w.heap[f.fb]? = some (FileObj f.v f.sure)
  b0 : base ≤ f.fb
  own : DataAt w base f.v f.data
  sure : 0 ≤ f.sure ∧ f.sure ≤ f.data.length

def ent (f : FileE) : MapEntry := { key := .string f.name, val := .pointer (some ⟨f.fb, 0, none⟩), born := f.born }
def look (fs : List FileE) (k : ByteArray) : Option FileE := fs.find? fun f => k == f.name
def lookV (fs : List FileE) (k : ByteArray) : Value := match look fs k with | some f => .pointer (some ⟨f.fb, 0, none⟩) | none => .pointer none
def sumLen : List FileE → Int
  | [] => 0
  | f :: fs => f.data.length + sumLen fs

/-- A disk: where it lies, and what it holds. -/
structure Dk where
  b : Nat
  m : Nat
  room : Int
  used : Int
  fuse : Int
  down : Bool
  clock : Nat
  fs : List FileE
structure DiskAt (w : World) (base : Nat) (D : Dk) : Prop where
  hb : w.heap[D.b]? = some (DiskObj D.room D.used D.m D.fuse D.down)
  hm : w.heap[D.m]? = some (.map (D.fs.map ent).toArray D.clock)
  hf : ∀ f ∈ D.fs, FileAt w base f
  b0 : base ≤ D.b
  m0 : base ≤ D.m
  fbs : (D.fs.map (·.fb)).Nodup
  blks : D.fs.Pairwise fun f g => f.v.ownBlock = none ∨ f.v.ownBlock ≠ g.v.ownBlock
  names : (D.fs.map (·.name)).Nodup
  born : ∀ f ∈ D.fs, f.born < D.clock
  borns : (D.fs.map (·.born)).Nodup
  ok : ∀ f ∈ D.fs, nameOk f.name = true
  used : D.used = sumLen D.fs
  room : 0 ≤ D.room ∧ D.room ≤ 1099511627776
  le : D.used ≤ D.room
  fuse : -1 ≤ D.fuse ∧ D.fuse ≤ 9223372036854775807
  cnt : D.fs.length ≤ 65536

theorem FileAt.move {w w' : World} {base : Nat} {f : FileE} (h : FileAt w base f) (h1 : w'.heap[f.fb]? = w.heap[f.fb]?) (h2 : ∀ k, f.v.ownBlock = some k → w'.heap[k]? = w.heap[k]?) : FileAt w' base f :=
  ⟨h1.trans h.hb, h.b0, h.own.move h2, h.sure⟩
theorem heap_lt {w : World} {k : Nat} {o : Obj} (h : w.heap[k]? = some o) : k < w.heap.size := (Array.getElem?_eq_some_iff.1 h).1
theorem DiskAt.move {w w' : World} {base : Nat} {D : Dk} (h : DiskAt w base D) (hk : ∀ k, base ≤ k → k < w.heap.size → w'.heap[k]? = w.heap[k]?) : DiskAt w' base D :=
  { h with
    hb := (hk _ h.b0 (heap_lt h.hb)).trans h.hb
    hm := (hk _ h.m0 (heap_lt h.hm)).trans h.hm
    hf := fun f hf => (h.hf f hf).move (hk _ (h.hf f hf).b0 (heap_lt (h.hf f hf).hb)) (fun k e => hk _ ((h.hf f hf).own.lt k e).1 ((h.hf f hf).own.lt k e).2) }
theorem DiskAt.below {w w' : World} {base : Nat} {D : Dk} (h : DiskAt w base D) (hb : Below w.heap.size w w') : DiskAt w' base D := h.move fun k _ hk => hb.block k hk

/-! ### The map -/
theorem findNow_ent (k : ByteArray) : ∀ (fs : List FileE) (i : Nat), Instr.findNow .string (.string k) (fs.map ent) i =
    some ((fs.findIdx? fun f => k == f.name).bind fun j => (fs[j]?).map fun f => (i + j, .pointer (some ⟨f.fb, 0, none⟩)))
  | [], i => rfl
  | f :: fs, i => by
    simp only [List.map_cons, Instr.findNow, ent, Instr.sameNow]
    by_cases h : (k == f.name) = true
    · simp [h, List.findIdx?_cons]
    · have h' : (k == f.name) = false := by simpa using h
      simp only [h', List.findIdx?_cons]
      rw [findNow_ent k fs (i + 1)]
      cases hj : fs.findIdx? fun f => k == f.name with
      | none => simp
      | some j => simp [Nat.add_assoc, Nat.add_comm 1 j]
theorem look_idx (fs : List FileE) (k : ByteArray) : look fs k = (fs.findIdx? fun f => k == f.name).bind fun j => fs[j]? := by
  unfold look
  induction fs with
  | nil => rfl
  | cons f fs ih =>
    by_cases h : (k == f.name) = true
    · simp [List.find?_cons, List.findIdx?_cons, h]
    · have h' : (k == f.name) = false := by simpa using h
      simp only [List.find?_cons, List.findIdx?_cons, h', ih]
      cases hj : fs.findIdx? fun f => k == f.name <;> simp
theorem findKey_ent (k : ByteArray) (fs : List FileE) (w : World) : (Instr.findKey 9 (.string k) (fs.map ent)).run Try.prog w =
    .ok ((fs.findIdx? fun f => k == f.name).bind fun j => (fs[j]?).map fun f => (j, .pointer (some ⟨f.fb, 0, none⟩))) w := by
  unfold Instr.findKey
  simp only [Sem.run_bind, run_underlying Try.underlying9, Result.andThen, findNow_ent]
  simp
theorem checkKey_str (b : Bool) (n : Nat) (k : ByteArray) (w : World) : (Instr.checkKey b (n + 1) 9 (.string k)).run Try.prog w = .ok () w := by
  simp [Instr.checkKey, Sem.run_bind, run_underlying Try.underlying9, Result.andThen]
theorem checkKey_run (b : Bool) (k : ByteArray) (w : World) : (Instr.checkKey b 10000 9 (.string k)).run Try.prog w = .ok () w := checkKey_str b 9999 k w
theorem zero56 (w : World) : (zeroValue 56).run Try.prog w = .ok (.pointer none) w := by kernel_rfl
theorem idx_some {fs : List FileE} {k : ByteArray} {j : Nat} (hj : (fs.findIdx? fun f => k == f.name) = some j) : ∃ f, fs[j]? = some f ∧ look fs k = some f := by
  have := (List.findIdx?_eq_some_iff_getElem.1 hj).1
  exact ⟨fs[j], by simp [this], by rw [look_idx, hj]; simp [this]⟩
theorem lookup_run {w : World} {m : Nat} {fs : List FileE} {c : Nat} (h : w.heap[m]? = some (.map (fs.map ent).toArray c)) (k : ByteArray) :
    (Instr.lookup 49 (.map (some m)) (.string k) false).run Try.prog w = .ok (lookV fs k) w := by
  unfold Instr.lookup
  simp only [Sem.run_bind, run_underlying Try.underlying49, Result.andThen, MapKept.run_getObj_map h]
  have hk : ∀ b, (Instr.checkKey b 10000 9 (.string k)).run Try.prog w = .ok () w := fun b => checkKey_str b 9999 k w
  simp [hk, Sem.run_bind, Result.andThen]
  rw [findKey_ent]
  simp only []
  cases hj : fs.findIdx? fun f => k == f.name with
  | none =>
    have e : lookV fs k = .pointer none := by rw [lookV, look_idx, hj]; rfl
    simp [e, zero56, hj]
  | some j =>
    obtain ⟨f, hf, hl⟩ := idx_some hj
    have e : lookV fs k = .pointer (some ⟨f.fb, 0, none⟩) := by rw [lookV, hl]
    simp [e, hj, hf]
theorem len_run {w : World} {m : Nat} {fs : List FileE} {c : Nat} (h : w.heap[m]? = some (.map (fs.map ent).toArray c)) (ty : TypeId) :
    (Builtin.len_ #[49] ty #[.map (some m)]).run Try.prog w = .ok (.int .i64 fs.length) w := by
  simp [Builtin.len_, run_underlying Try.underlying49, MapKept.run_getObj_map h, goInt, Result.andThen]
def putMap (w : World) (m : Nat) (fs : List FileE) (c : Nat) : World := { w with heap := w.heap.setIfInBounds m (.map (fs.map ent).toArray c) }
theorem putMap_same {w : World} {m : Nat} (fs : List FileE) (c : Nat) (h : m < w.heap.size) : (putMap w m fs c).heap[m]? = some (.map (fs.map ent).toArray c) := by simp [putMap, h]
theorem putMap_other {w : World} {m k : Nat} (fs : List FileE) (c : Nat) (h : k ≠ m) : (putMap w m fs c).heap[k]? = w.heap[k]? := by
  simp [putMap, Array.getElem?_setIfInBounds, Ne.symm h]
@[simp] theorem putMap_size (w : World) (m : Nat) (fs : List FileE) (c : Nat) : (putMap w m fs c).heap.size = w.heap.size := by simp [putMap]
theorem putMap_grown (w : World) (m : Nat) (fs : List FileE) (c : Nat) : w.grownBy (putMap w m fs c) (some m) :=
  ⟨rfl, rfl, rfl, by simp, fun k _ hk => putMap_other fs c (fun e => hk (by rw [e]))⟩
/-- A new key. -/
theorem update_run {w : World} {m : Nat} {fs : List FileE} {c : Nat} (h : w.heap[m]? = some (.map (fs.map ent).toArray c)) (f : FileE) (hl : look fs f.name = none) (hc : f.born = c) :
    (Instr.mapUpdate 49 (.map (some m)) (.string f.name) (.pointer (some ⟨f.fb, 0, none⟩))).run Try.prog w = .ok () (putMap w m (fs ++ [f]) (c + 1)) := by
  have hj : (fs.findIdx? fun g => f.name == g.name) = none := by
    cases hj : fs.findIdx? fun g => f.name == g.name with
    | none => rfl
    | some j => obtain ⟨g, _, hg⟩ := idx_some hj; rw [hl] at hg; cases hg
  unfold Instr.mapUpdate
  simp only [Sem.run_bind, run_underlying Try.underlying49, Result.andThen, MapKept.run_getObj_map h]
  have hk : ∀ b, (Instr.checkKey b 10000 9 (.string f.name)).run Try.prog w = .ok () w := fun b => checkKey_str b 9999 f.name w
  simp [hk, Sem.run_bind, Result.andThen]
  rw [findKey_ent, hj]
  simp [MapKept.run_setObj_map _ h, putMap, ent, hc]
theorem eraseIdx_ent : ∀ (l : List FileE) (j : Nat), (l.map ent).eraseIdx j = (l.eraseIdx j).map ent
  | [], _ => by simp
  | _ :: _, 0 => by simp
  | a :: r, j + 1 => by simp [eraseIdx_ent r j]
theorem delete_run {w : World} {m : Nat} {fs : List FileE} {c : Nat} (h : w.heap[m]? = some (.map (fs.map ent).toArray c)) (k : ByteArray) (j : Nat) (hj : (fs.findIdx? fun f => k == f.name) = some j) (ty : TypeId) :
    (Builtin.delete_ #[49, 9] ty #[.map (some m), .string k]).run Try.prog w = .ok (.tuple #[]) (putMap w m (fs.eraseIdx j) c) := by
  obtain ⟨f, hf, _⟩ := idx_some hj
  have hlt : j < fs.length := (List.getElem?_eq_some_iff.1 hf).1
  unfold Builtin.delete_
  have hk : ∀ b, (Instr.checkKey b 10000 9 (.string k)).run Try.prog w = .ok () w := fun b => checkKey_str b 9999 k w
  simp [hk, Sem.run_bind, Result.andThen, run_underlying Try.underlying49, MapKept.run_getObj_map h]
  rw [findKey_ent, hj]
  simp [hf, MapKept.run_setObj_map _ h, putMap]
  rw [eraseIdx_ent]

/-! ### A file changes; one comes; one goes -/
def upd (fs : List FileE) (fb : Nat) (v : Value) (data : List Int) (sure : Int) : List FileE := fs.map fun g => if g.fb = fb then { g with v := v, data := data, sure := sure } else g
theorem upd_ent (fs : List FileE) (fb : Nat) (v : Value) (data : List Int) (sure : Int) : (upd fs fb v data sure).map ent = fs.map ent := by
  unfold upd; rw [List.map_map]; exact List.map_congr_left fun g _ => by simp only [Function.comp]; split <;> rfl
theorem upd_names (fs : List FileE) (fb : Nat) (v : Value) (data : List Int) (sure : Int) : (upd fs fb v data sure).map (·.name) = fs.map (·.name) := by
  unfold upd; rw [List.map_map]; exact List.map_congr_left fun g _ => by simp only [Function.comp]; split <;> rfl
theorem upd_fbs (fs : List FileE) (fb : Nat) (v : Value) (data : List Int) (sure : Int) : (upd fs fb v data sure).map (·.fb) = fs.map (·.fb) := by
  unfold upd; rw [List.map_map]; exact List.map_congr_left fun g _ => by simp only [Function.comp]; split <;> rfl
theorem upd_borns (fs : List FileE) (fb : Nat) (v : Value) (data : List Int) (sure : Int) : (upd fs fb v data sure).map (·.born) = fs.map (·.born) := by
  unfold upd; rw [List.map_map]; exact List.map_congr_left fun g _ => by simp only [Function.comp]; split <;> rfl
theorem mem_upd {fs : List FileE} {fb : Nat} {v : Value} {data : List Int} {sure : Int} {g : FileE} (h : g ∈ upd fs fb v data sure) : ∃ g0 ∈ fs, (g0.fb = fb ∧ g = { g0 with v := v, data := data, sure := sure }) ∨ (g0.fb ≠ fb ∧ g = g0) := by
  obtain ⟨g0, h0, e⟩ := List.mem_map.1 h
  refine ⟨g0, h0, ?_⟩
  split at e
  · exact .inl ⟨by assumption, e.symm⟩
  · exact .inr ⟨by assumption, e.symm⟩
theorem nodup_eq {fs : List FileE} (h : (fs.map (·.fb)).Nodup) {f g : FileE} (hf : f ∈ fs) (hg : g ∈ fs) (e : f.fb = g.fb) : f = g := by
  induction fs with
  | nil => cases hf
  | cons a r ih =>
    simp only [List.map_cons, List.nodup_cons] at h
    rcases List.mem_cons.1 hf with rfl | hf'
    · rcases List.mem_cons.1 hg with rfl | hg'
      · rfl
      · exact absurd (List.mem_map.2 ⟨g, hg', e.symm⟩) h.1
    · rcases List.mem_cons.1 hg with rfl | hg'
      · exact absurd (List.mem_map.2 ⟨f, hf', e⟩) h.1
      · exact ih h.2 hf' hg'
theorem sumLen_upd {fs : List FileE} (hn : (fs.map (·.fb)).Nodup) {f : FileE} (hf : f ∈ fs) (v : Value) (data : List Int) (sure : Int) : sumLen (upd fs f.fb v data sure) = sumLen fs - f.data.length + data.length := by
  induction fs with
  | nil => cases hf
  | cons a r ih =>
    simp only [List.map_cons, List.nodup_cons] at hn
    rcases List.mem_cons.1 hf with rfl | hf
    · have : upd r f.fb v data sure = r := by
        unfold upd
        conv => rhs; rw [← List.map_id r]
        exact List.map_congr_left fun g hg => by
          rw [if_neg (fun e => hn.1 (List.mem_map.2 ⟨g, hg, e⟩))]; rfl
      simp only [upd, List.map_cons] at this ⊢
      rw [this]
      simp [sumLen]; omega
    · have hne : a.fb ≠ f.fb := fun e => hn.1 (List.mem_map.2 ⟨f, hf, e.symm⟩)
      have := ih hn.2 hf
      simp only [upd, List.map_cons] at this ⊢
      rw [if_neg hne]
      simp [sumLen]; omega
theorem sumLen_nonneg : ∀ fs : List FileE, 0 ≤ sumLen fs
  | [] => by simp [sumLen]
  | f :: fs => by have := sumLen_nonneg fs; simp [sumLen]; omega
theorem len_le_sum : ∀ {fs : List FileE} {f : FileE}, f ∈ fs → (f.data.length : Int) ≤ sumLen fs
  | a :: r, f, h => by
    have h1 := sumLen_nonneg r
    rcases List.mem_cons.1 h with rfl | h
    · simp [sumLen]; omega
    · have := len_le_sum h; simp [sumLen]; omega
theorem pair_of {fs : List FileE} (h : fs.Pairwise fun f g => f.v.ownBlock = none ∨ f.v.ownBlock ≠ g.v.ownBlock) {f g : FileE} (hf : f ∈ fs) (hg : g ∈ fs) (hne : f ≠ g) : f.v.ownBlock = none ∨ f.v.ownBlock ≠ g.v.ownBlock := by
  induction fs with
  | nil => cases hf
  | cons a r ih =>
    obtain ⟨h1, h2⟩ := List.pairwise_cons.1 h
    rcases List.mem_cons.1 hf with rfl | hf'
    · rcases List.mem_cons.1 hg with rfl | hg'
      · exact absurd rfl hne
      · exact h1 g hg'
    · rcases List.mem_cons.1 hg with rfl | hg'
      · rcases h1 f hf' with e | e
        · by_cases hz : f.v.ownBlock = none
          · exact .inl hz
          · exact .inr (by rw [e]; exact hz)
        · exact .inr fun e' => e e'.symm
      · exact ih h2 hf' hg'
end Go.Proofs.Ytajgimacecjnkaa
