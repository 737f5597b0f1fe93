/- A file's bytes in memory: a row of the disk's own, or its beginning (behind a cut); append on it. -/
import Derived.Test.YtajgimacecjnkaaProg
import Derived.Test.YtajgimacecjnkaaWWords
import Derived.Deep.AppendSrc
set_option linter.unusedSimpArgs false
set_option linter.unusedVariables false
namespace Go.Proofs.Ytajgimacecjnkaa
open Go.RowKit Go.Lib Go.Proofs.YtajgimacecjnkaaW.PrintWords

/-- v is nil, or begins a block of the disk's own, whose first cells are these bytes. -/
structure DataAt (w : World) (base : Nat) (v : Value) (xs : List Int) : Prop where mk ::
  out : (v = .slice none 0 0 ∧ xs = []) ∨ ∃ g cap cur, v = .slice (some ⟨g, 0, none⟩) xs.length cap ∧ base ≤ g ∧ w.heap[g]? = some (.cells cur 5 (0, 0)) ∧ xs.length ≤ cap ∧ cap ≤ cur.size ∧ cap ≤ maxLen ∧
    ∀ j (h : j < xs.length), cur[j]? = some (.int .u8 xs[j])
theorem DataAt.nil (w : World) (base : Nat) : DataAt w base (.slice none 0 0) [] := ⟨.inl ⟨rfl, rfl⟩⟩
theorem DataAt.lt {w : World} {base : Nat} {v : Value} {xs : List Int} (h : DataAt w base v xs) (k : Nat) (hk : v.ownBlock = some k) : base ≤ k ∧ k < w.heap.size := by
  rcases h.out with ⟨rfl, _⟩ | ⟨g, cap, cur, rfl, hg, hh, _⟩
  · simp [Value.ownBlock] at hk
  · have : g = k := by simpa [Value.ownBlock] using hk
    subst this
    exact ⟨hg, (Array.getElem?_eq_some_iff.1 hh).1⟩
theorem DataAt.typed {w : World} {base : Nat} {v : Value} {xs : List Int} (h : DataAt w base v xs) (k : Nat) (hk : v.ownBlock = some k) : ∃ cells, w.heap[k]? = some (.cells cells 5 (0, 0)) := by
  rcases h.out with ⟨rfl, _⟩ | ⟨g, cap, cur, rfl, hg, hh, _⟩
  · simp [Value.ownBlock] at hk
  · have : g = k := by simpa [Value.ownBlock] using hk
    subst this
    exact ⟨cur, hh⟩
theorem DataAt.move {w w1 : World} {base : Nat} {v : Value} {xs : List Int} (h : DataAt w base v xs) (hm : ∀ k, v.ownBlock = some k → w1.heap[k]? = w.heap[k]?) : DataAt w1 base v xs := by
  refine ⟨?_⟩
  rcases h.out with h2 | ⟨g, cap, cur, rfl, hg, hh, r⟩
  · exact .inl h2
  · exact .inr ⟨g, cap, cur, rfl, hg, (hm g (by simp [Value.ownBlock])).trans hh, r⟩
theorem DataAt.form {w : World} {base : Nat} {v : Value} {xs : List Int} (h : DataAt w base v xs) : ∃ A c, v = .slice A xs.length c ∧ xs.length ≤ c ∧ c ≤ maxLen := by
  rcases h.out with ⟨rfl, rfl⟩ | ⟨g, cap, cur, rfl, hg, hh, h1, h2, h3, _⟩
  · exact ⟨none, 0, rfl, Nat.le_refl _, by simp [maxLen]⟩
  · exact ⟨_, cap, rfl, h1, h3⟩
theorem DataAt.reads {w : World} {base : Nat} {v : Value} {xs : List Int} (h : DataAt w base v xs) : ∃ A c, v = .slice A xs.length c ∧ xs.length ≤ c ∧ ReadsOf (Value.int .u8) 0 w A xs.length xs := by
  rcases h.out with ⟨rfl, rfl⟩ | ⟨g, cap, cur, rfl, hg, hh, h1, h2, h3, hc⟩
  · exact ⟨none, 0, rfl, Nat.le_refl _, rfl, by simp, fun h => absurd h (Nat.lt_irrefl 0)⟩
  · refine ⟨_, cap, rfl, h1, rfl, ?_, fun _ => ⟨_, rfl, fun j hj => ?_⟩⟩
    · unfold maxLen at h3; omega
    · have := hc j hj
      rw [add_plain]
      simp [World.cell?, hh, this, List.getD_eq_getElem?_getD, hj]

theorem setCells_block (b : Nat) (e : TypeId) : ∀ (vs : List Value) (o : Nat) (w : World) (cur : Array Value), w.heap[b]? = some (.cells cur e (0, 0)) → ∃ cur', (w.setCells b o vs).heap[b]? = some (.cells cur' e (0, 0)) ∧ cur'.size = cur.size
  | [], _, _, cur, h => ⟨cur, h, rfl⟩
  | v :: r, o, w, cur, h => by
    have h1 : (w.setCell ⟨b, o, none⟩ v).heap[b]? = some (.cells (cur.setIfInBounds o v) e (0, 0)) := by
      simp [World.setCell, Array.getElem?_modify, h]
    obtain ⟨cur', h2, h3⟩ := setCells_block b e r (o + 1) _ _ h1
    exact ⟨cur', h2, by simpa using h3⟩
theorem setCells_other (b : Nat) : ∀ (vs : List Value) (o : Nat) (w : World) (k : Nat), k ≠ b → (w.setCells b o vs).heap[k]? = w.heap[k]?
  | [], _, _, _, _ => rfl
  | v :: r, o, w, k, h => by rw [World.setCells, setCells_other b r (o + 1) _ k h, Below.heap_setCell _ _ _ _ h]
theorem setCells_streams (b : Nat) : ∀ (vs : List Value) (o : Nat) (w : World), (w.setCells b o vs).os = w.os ∧ (w.setCells b o vs).tape = w.tape ∧ (w.setCells b o vs).output = w.output ∧ (w.setCells b o vs).heap.size = w.heap.size
  | [], _, _ => ⟨rfl, rfl, rfl, rfl⟩
  | v :: r, o, w => by
    obtain ⟨a1, a2, a3, a4⟩ := setCells_streams b r (o + 1) (w.setCell ⟨b, o, none⟩ v)
    exact ⟨a1, a2, a3, a4.trans (by simp [World.setCell])⟩

theorem info5 : (Try.prog.info? 5).map (fun i => (i.zero, i.size, i.bytes)) = some (some (.int .u8 0), 1, 1) := by kernel_rfl
theorem getElem?_bytes (zs : List Int) (rest : Array Value) (j : Nat) (h : j < zs.length) : ((zs.map (Value.int .u8)).toArray ++ rest)[j]? = some (.int .u8 zs[j]) := by
  rw [Array.getElem?_append, if_pos (by simpa using h)]; simp [h]
/-- The block that append makes. -/
theorem data_new {w : World} {base : Nat} (zs : List Int) (cap need : Nat) (z : Array Value) (hz : z.size = 1) (hn : zs.length = need) (hcap : need ≤ cap) (hm : cap ≤ maxLen) (hbase : base ≤ w.heap.size) :
    DataAt (w.drew.alloc (.cells ((zs.map (Value.int .u8)).toArray ++ Builtin.zeroCells z (cap - need)) 5)) base (.slice (some ⟨w.heap.size, 0, none⟩) need cap) zs := by
  subst hn
  refine ⟨.inr ⟨w.heap.size, cap, (zs.map (Value.int .u8)).toArray ++ Builtin.zeroCells z (cap - zs.length), rfl, hbase, ?_, hcap, ?_, hm, fun j hj => getElem?_bytes zs _ j hj⟩⟩
  · have : w.drew.heap.size = w.heap.size := rfl
    rw [← this]
    exact heap_alloc_new w.drew _
  · simp [size_zeroCells, hz]; omega
theorem grown_new (w : World) (o : Obj) (row : Option Nat) : w.grownBy (w.drew.alloc o) row :=
  ⟨rfl, rfl, rfl, by simp, fun k hk _ => Below.heap_alloc w.drew o k hk⟩
/-- append(v, ys...): there is room, or not. -/
theorem append_data {w : World} {base : Nat} {v : Value} {xs ys : List Int} (h : DataAt w base v xs) (A : Option Addr) (m c : Nat) (HR : ReadsOf (Value.int .u8) 0 w A m ys) (hbase : base ≤ w.heap.size) (hl : xs.length + m ≤ 140737488355328) (ty : TypeId) :
    ∃ v1 w1, (Builtin.append_ #[29, 29] ty #[v, .slice A m c]).run Try.prog w = .ok v1 w1 ∧ DataAt w1 base v1 (xs ++ ys) ∧ w.grownBy w1 v.ownBlock ∧ (v1.ownBlock = v.ownBlock ∨ v1.ownBlock = some w.heap.size) := by
  obtain ⟨i0, hi, hzz⟩ := Option.map_eq_some_iff.1 info5
  simp only [Prod.mk.injEq] at hzz
  obtain ⟨hz0, hz1, hz2⟩ := hzz
  obtain ⟨hy, hm, hr⟩ := HR
  have hs : Src Try.prog i0.size 29 (.slice A m c) m (ys.map (Value.int .u8)) w := by
    rcases A with _ | ad
    · have : m = 0 := by
        rcases Nat.eq_zero_or_pos m with h0 | h0
        · exact h0
        · obtain ⟨_, e, _⟩ := hr h0; cases e
      subst this
      obtain rfl := List.eq_nil_of_length_eq_zero hy
      exact Src.ofNil w Try.underlying29 c
    · refine Src.ofSlice w Try.underlying29 ad m c _ (by rw [List.length_map, hz1, hy, Nat.mul_one]) (fun j u hu => ?_) (fun u hu => ?_)
      · rw [List.getElem?_map] at hu
        obtain ⟨x, hx, rfl⟩ := Option.map_eq_some_iff.1 hu
        have hj : j < m := by rw [← hy]; exact (List.getElem?_eq_some_iff.1 hx).1
        obtain ⟨ad', e, hc⟩ := hr (by omega)
        cases e
        rw [hc j hj, List.getD_eq_getElem?_getD, hx]; rfl
      · obtain ⟨_, _, rfl⟩ := List.mem_map.1 hu; rfl
  have hfit : ∀ need cap : Nat, cap < need → need ≤ 140737488355328 → Builtin.nextslicecap need cap * i0.bytes ≤ 281474976710656 := fun need cap h1 h2 => growslice_fits h1 (by rw [hz2]; omega)
  rcases h.out with ⟨rfl, rfl⟩ | ⟨g, cap, cur, rfl, hg, hh, h1, h2, h3, hc⟩
  · rcases Nat.eq_zero_or_pos m with h0 | h0
    · subst h0
      obtain rfl := List.eq_nil_of_length_eq_zero hy
      refine ⟨.slice none 0 0, w, ?_, DataAt.nil _ _, ⟨rfl, rfl, rfl, Nat.le_refl _, fun _ _ _ => rfl⟩, .inl rfl⟩
      simp [Builtin.append_, run_underlying Try.underlying29, sizeOf, typeInfo, hi, hs.len, Builtin.lenOf, hs.cells, storeCells]
    · have hrun := run_append_grow_src w 29 29 ty 5 i0 _ Try.underlying29 hi hz0 none 0 0 [] (run_firstCells_none _ _ _ _ _) (.slice A m c) m _ hs (by omega) (by simp at hl; omega) (hfit _ _ (by omega) (by simp at hl; omega))
      refine ⟨_, _, hrun, ?_, grown_new _ _ _, .inr rfl⟩
      have := data_new (w := w) (base := base) ys (grownCap w (0 + m) 0 5) (0 + m) (Value.int .u8 0).cells rfl (by omega) (grownCap_ge _ _ _ _) (grownCap_le_maxLen _ _ _ _ (by simp at hl; unfold maxLen; omega)) hbase
      simpa using this
  · by_cases hroom : xs.length + m ≤ cap
    · have hlen : (ys.map (Value.int .u8)).length = m := by simpa using hy
      have hrun := run_append_room_src w 29 29 ty 5 i0 Try.underlying29 hi g 0 xs.length cap (.slice A m c) m _ hs hroom
        (fun j hj => by
          rw [hlen] at hj
          have : xs.length * i0.size + j < cur.size := by rw [hz1]; omega
          simp [World.cell?, hh, this])
        (fun j hj => by simp [World.frozen?, hh])
      refine ⟨_, _, hrun, ?_, ?_, .inl rfl⟩
      · obtain ⟨cur', hb', hsz⟩ := setCells_block g 5 (ys.map (Value.int .u8)) (0 + xs.length * i0.size) w cur hh
        refine ⟨.inr ⟨g, cap, cur', by simp [hy], hg, hb', by simp [hy]; omega, by omega, h3, fun j hj => ?_⟩⟩
        have key : (w.setCells g (0 + xs.length * i0.size) (ys.map (Value.int .u8))).cell? ⟨g, j, none⟩ = some (.int .u8 (xs ++ ys)[j]) := by
          by_cases hx : j < xs.length
          · rw [World.cell?_setCells_out g _ _ _ _ (fun _ _ => .inl (by rw [hz1]; simp; exact hx))]
            simp [World.cell?, hh, hc j hx, List.getElem_append_left hx]
          · have hj2 : j - xs.length < ys.length := by simp at hj; omega
            have := World.cell?_setCells_in g (ys.map (Value.int .u8)) (0 + xs.length * i0.size) w (fun i hi2 => by
              have : xs.length * i0.size + i < cur.size := by rw [hz1]; rw [hlen] at hi2; omega
              simp [World.cell?, hh, this]) (j - xs.length) (by simpa using hj2)
            rw [hz1, show 0 + xs.length * 1 + (j - xs.length) = j by omega] at this
            rw [hz1, this]
            simp [List.getElem_append_right (Nat.not_lt.1 hx)]
        unfold World.cell? at key
        rw [hb'] at key
        simpa using key
      · obtain ⟨a1, a2, a3, a4⟩ := setCells_streams g (ys.map (Value.int .u8)) (0 + xs.length * i0.size) w
        exact ⟨a1, a2, a3, by rw [a4]; exact Nat.le_refl _, fun k _ hk => setCells_other g _ _ _ k (fun e => hk (by simp [Value.ownBlock, e]))⟩
    · have hold : (Builtin.firstCells i0.size xs.length (.slice (some ⟨g, 0, none⟩) xs.length cap)).run Try.prog w.drew = .ok (xs.map (Value.int .u8)).toArray w.drew := by
        refine run_firstCells_some w.drew i0.size xs.length ⟨g, 0, none⟩ xs.length cap (xs.map (Value.int .u8)) (by simp [hz1]) (fun j u hu => ?_)
        rw [List.getElem?_map] at hu
        obtain ⟨x, hx, rfl⟩ := Option.map_eq_some_iff.1 hu
        have hj := (List.getElem?_eq_some_iff.1 hx)
        rw [add_plain]
        show w.cell? _ = _
        simp [World.cell?, hh, hc j hj.1, hj.2]
      have hrun := run_append_grow_src w 29 29 ty 5 i0 _ Try.underlying29 hi hz0 (some ⟨g, 0, none⟩) xs.length cap _ hold (.slice A m c) m _ hs (by omega) (by omega) (hfit _ _ (by omega) hl)
      refine ⟨_, _, hrun, ?_, grown_new _ _ _, .inr rfl⟩
      have := data_new (w := w) (base := base) (xs ++ ys) (grownCap w (xs.length + m) cap 5) (xs.length + m) (Value.int .u8 0).cells rfl (by simp [hy]) (grownCap_ge _ _ _ _) (grownCap_le_maxLen _ _ _ _ (by unfold maxLen; omega)) hbase
      simpa using this

section
variable {P : Program} {ops : Array Oper} {rest : List Oper} {o : Oper} {a : Act} {Q : Exit → Act → World → Prop}
/-- An append whose run is known. -/
theorem wpList_append_run {W w1 : World} (hgd : o.guard = none) (s x : Operand) (t ty : TypeId) (ho : o.op = .call { callee := .builtin .append, args := #[s, x], argTypes := #[t, t] }) (hty : o.type = ty) (v u v1 : Value)
    (hs : a.eval s = v) (hx : a.eval x = u) (hrun : (Builtin.append_ #[t, t] ty #[v, u]).run P W = .ok v1 w1) (h : wpList P ops Q rest (a.put o.dst v1) w1) : wpList P ops Q (o :: rest) a W := by
  subst hty
  refine wpList_plain hgd fun K hK => ?_
  unfold Oper.wp execOp
  simp only [ho, resolve, invoke, builtin, Sem.run_bind, Sem.run_pure, Result.andThen_ok, List.map_toArray, List.map_cons, List.map_nil, hs, hx, hrun]
  exact hK _ _ h
end
end Go.Proofs.Ytajgimacecjnkaa
