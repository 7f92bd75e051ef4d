/- Plain words: what an arena's functions do to its state; the one law by which a turned arena lies in memory. -/
import Derived.Test.YtanglcdiebkmiaaGreatSt
set_option linter.unusedSimpArgs false
set_option linter.unusedVariables false
namespace Tw
open Go Go.RowKit

def St.put (st : St) (id : Nat) (p : Pg) : St := { st with pages := st.pages.set (id - 1) (some p) }
def St.drop (st : St) (id : Nat) : St := { st with pages := st.pages.set (id - 1) none, free := st.free ++ [id] }
/-- A new page, and its number. -/
def St.new (st : St) : Nat × St :=
  match st.free.getLast? with
  | none => (st.pages.length + 1, { st with pages := st.pages ++ [some .raw] })
  | some n => (n, { st with pages := st.pages.set (n - 1) (some .raw), free := st.free.dropLast })

theorem St.get_put {st : St} {id i : Nat} {p : Pg} (h : (st.get id).isSome) : (st.put id p).get i = if i = id then some p else st.get i := by
  obtain ⟨q, hq⟩ := Option.isSome_iff_exists.1 h
  obtain ⟨h1, h2, h3⟩ := St.get_some hq
  unfold St.get St.put
  by_cases hi : i = 0
  · rw [if_pos hi, if_neg (by omega), if_pos hi]
  · rw [if_neg hi]
    by_cases he : i = id
    · subst he; rw [if_pos rfl, List.getElem?_set_self (by omega)]; rfl
    · rw [if_neg he, if_neg hi, List.getElem?_set_ne (by omega)]

theorem St.get_drop {st : St} {id i : Nat} (h : (st.get id).isSome) : (st.drop id).get i = if i = id then none else st.get i := by
  obtain ⟨q, hq⟩ := Option.isSome_iff_exists.1 h
  obtain ⟨h1, h2, h3⟩ := St.get_some hq
  unfold St.get St.drop
  by_cases hi : i = 0
  · rw [if_pos hi, if_neg (by omega), if_pos hi]
  · rw [if_neg hi]
    by_cases he : i = id
    · subst he; rw [if_pos rfl, List.getElem?_set_self (by omega)]; rfl
    · rw [if_neg he, if_neg hi, List.getElem?_set_ne (by omega)]

theorem St.get_none_gt {st : St} {i : Nat} (h : st.pages.length < i) : st.get i = none := by
  unfold St.get; rw [if_neg (by omega), List.getElem?_eq_none (by omega)]; rfl

/-- The number that is given out was not in use; it is now, as all others are as they were. -/
theorem St.new_spec {st : St} (h : st.WF) : 1 ≤ st.new.1 ∧ st.get st.new.1 = none ∧ (∀ i, st.new.2.get i = if i = st.new.1 then some .raw else st.get i) ∧
    st.new.2.pages.length = max st.pages.length st.new.1 ∧ st.new.2.quota = st.quota := by
  unfold St.new
  cases hf : st.free.getLast? with
  | none =>
    refine ⟨by simp, St.get_none_gt (by simp), fun i => ?_, by simp, rfl⟩
    simp only
    unfold St.get
    by_cases hi : i = 0
    · rw [if_pos hi, if_neg (by omega), if_pos hi]
    · rw [if_neg hi, if_neg hi]
      by_cases he : i = st.pages.length + 1
      · subst he; rw [if_pos rfl]; simp
      · rw [if_neg he]
        rcases Nat.lt_or_ge (i - 1) st.pages.length with hl | hl
        · rw [List.getElem?_append_left hl]
        · rw [List.getElem?_eq_none (by simp; omega), List.getElem?_eq_none (by omega)]
  | some n =>
    have hn := (h.free n).1 (List.mem_of_getLast? hf)
    refine ⟨hn.1, hn.2.2, fun i => ?_, by simp; omega, rfl⟩
    simp only
    have hg := hn.2.2
    unfold St.get at hg ⊢
    by_cases hi : i = 0
    · rw [if_pos hi, if_neg (by omega), if_pos hi]
    · rw [if_neg hi, if_neg hi]
      by_cases he : i = n
      · subst he; rw [if_pos rfl, List.getElem?_set_self (by omega)]; rfl
      · rw [if_neg he, List.getElem?_set_ne (by omega)]

theorem St.WF.put {st : St} (h : st.WF) {id : Nat} {p : Pg} (hi : (st.get id).isSome) (hp : p.OK) : (st.put id p).WF where
  quota := h.quota
  len := by simp [St.put]; exact h.len
  nodup := h.nodup
  free := fun i => by
    have hl : (st.put id p).pages.length = st.pages.length := by simp [St.put]
    rw [show (st.put id p).free = st.free from rfl, h.free, hl, St.get_put hi]
    by_cases he : i = id
    · subst he; rw [if_pos rfl]; obtain ⟨q, hq⟩ := Option.isSome_iff_exists.1 hi; simp [hq]
    · rw [if_neg he]
  ok := fun i q hq => by
    rw [St.get_put hi] at hq
    split at hq
    · simp at hq; rw [← hq]; exact hp
    · exact h.ok i q hq

theorem St.WF.drop {st : St} (h : st.WF) {id : Nat} (hi : (st.get id).isSome) : (st.drop id).WF where
  quota := h.quota
  len := by simp [St.drop]; exact h.len
  nodup := by
    refine List.nodup_append.2 ⟨h.nodup, by simp, fun a ha b hb => ?_⟩
    simp at hb; subst hb
    rintro rfl
    have := ((h.free a).1 ha).2.2
    rw [this] at hi; cases hi
  free := fun i => by
    obtain ⟨q, hq⟩ := Option.isSome_iff_exists.1 hi
    obtain ⟨h1, h2, h3⟩ := St.get_some hq
    have hl : (st.drop id).pages.length = st.pages.length := by simp [St.drop]
    rw [show (st.drop id).free = st.free ++ [id] from rfl, List.mem_append, h.free, hl, St.get_drop hi]
    by_cases he : i = id
    · subst he; simp; omega
    · simp [he]
  ok := fun i q hq => by
    rw [St.get_drop hi] at hq
    split at hq
    · cases hq
    · exact h.ok i q hq

theorem St.WF.new {st : St} (h : st.WF) (hl : st.left ≠ 0) : st.new.2.WF := by
  have hs := St.new_spec h
  have hle := h.freeLe
  have hq := h.quota
  have hfl : st.free.length = 0 → st.pages.length < 4096 := fun h0 => by unfold St.left St.used at hl; omega
  refine ⟨by rw [hs.2.2.2.2]; exact hq, ?_, ?_, fun i => ?_, fun i p hp => ?_⟩
  · have := h.len
    unfold St.new
    cases hf : st.free.getLast? with
    | none => have := hfl (by rw [List.getLast?_eq_none_iff.1 hf]; rfl); simp; omega
    | some n => simp; omega
  · unfold St.new
    cases hf : st.free.getLast? with
    | none => exact h.nodup
    | some n => exact h.nodup.sublist (List.dropLast_sublist _)
  · rw [hs.2.2.1 i, hs.2.2.2.1]
    unfold St.new
    cases hf : st.free.getLast? with
    | none =>
      have h0 := List.getLast?_eq_none_iff.1 hf
      have hno : ∀ j, ¬ (1 ≤ j ∧ j ≤ st.pages.length ∧ st.get j = none) := fun j hj => by have := (h.free j).2 hj; rw [h0] at this; simp at this
      simp only [h0, List.not_mem_nil, false_iff]
      rintro ⟨a, b, c⟩
      split at c
      · cases c
      · exact hno i ⟨a, by omega, c⟩
    | some n =>
      obtain ⟨l, hl'⟩ : ∃ l, st.free = l ++ [n] := ⟨st.free.dropLast, (List.getLast?_eq_some_iff.1 hf).elim fun l hl => by rw [hl]; simp⟩
      have hn := (h.free n).1 (List.mem_of_getLast? hf)
      have hnd := h.nodup
      have hfr := h.free i
      rw [hl'] at hnd hfr ⊢
      simp only [List.dropLast_concat]
      have hnl : n ∉ l := fun hx => by have := (List.nodup_append.1 hnd).2.2 n hx n (by simp); exact this rfl
      by_cases he : i = n
      · subst he; simp [hnl]
      · rw [if_neg he]
        rw [show max st.pages.length n = st.pages.length from by omega]
        rw [← hfr]; simp [he]
  · rw [hs.2.2.1 i] at hp
    split at hp
    · simp at hp; rw [← hp]; trivial
    · exact h.ok i p hp

theorem ne_of_elem {w : World} {a b : Nat} {c c' : Array Value} {T T' : TypeId} {f f' : Nat × Nat} (ha : w.heap[a]? = some (.cells c T f)) (hb : w.heap[b]? = some (.cells c' T' f')) (h : T ≠ T') : a ≠ b := by
  rintro rfl; rw [ha] at hb; simp at hb; exact h hb.2.1

/-- Blocks of F' are of F, or are new. -/
def Grow (F F' : Nat → Prop) (w : World) : Prop := ∀ k, F' k → F k ∨ w.heap.size ≤ k
theorem Grow.refl (F : Nat → Prop) (w : World) : Grow F F w := fun _ h => .inl h
theorem Grow.trans {F F' F'' : Nat → Prop} {w w' : World} (h : Grow F F' w) (g : Grow F' F'' w') (hs : w.heap.size ≤ w'.heap.size) : Grow F F'' w := fun k hk => by
  rcases g k hk with a | a
  · exact h k a
  · exact .inr (by omega)

/-- The arena's own blocks that a call may write. -/
def Hot (A : Nat) (pa fa : Option Addr) : Nat → Prop := fun k => k = A ∨ Blk pa k ∨ Blk fa k

theorem blk_own {a : Option Addr} {n c k : Nat} : Blk a k ↔ (Value.slice a n c).ownBlock = some k := by
  cases a <;> simp [Blk, Value.ownBlock]

/-- No page is written. -/
theorem ArenaAt.cold {w : World} {A : Nat} {st : St} {F : Nat → Prop} {pa fa : Option Addr} {pc fc : Nat} {ptrs : List Value} (h : ArenaAt w A st F pa pc fa fc ptrs)
    {g : Nat} {cs : Array Value} {f : Nat × Nat} (hg : w.heap[g]? = some (.cells cs 133 f)) : ¬ Hot A pa fa g := by
  rintro (rfl | hk | hk)
  · exact ne_of_elem hg h.blk (by decide) rfl
  · rw [blk_own (n := st.pages.length) (c := pc)] at hk
    rcases h.pages.2 with ⟨hv, _⟩ | ⟨g', cap, cur, hv, _, hg', _⟩
    · rw [hv] at hk; cases hk
    · rw [hv] at hk; simp [Value.ownBlock] at hk; subst hk; exact ne_of_elem hg hg' (by decide) rfl
  · rw [blk_own (n := st.free.length) (c := fc)] at hk
    rcases h.free.2 with ⟨hv, _⟩ | ⟨g', cap, cur, hv, _, hg', _⟩
    · rw [hv] at hk; cases hk
    · rw [hv] at hk; simp [Value.ownBlock] at hk; subst hk; exact ne_of_elem hg hg' (by decide) rfl

theorem ArenaAt.pages_block {w : World} {A : Nat} {st : St} {F : Nat → Prop} {pa fa : Option Addr} {pc fc : Nat} {ptrs : List Value} (h : ArenaAt w A st F pa pc fa fc ptrs) {k : Nat} (hk : Blk pa k) :
    k ≠ A ∧ ¬ Blk fa k := by
  rw [blk_own (n := st.pages.length) (c := pc)] at hk
  rcases h.pages.2 with ⟨hv, _⟩ | ⟨g', cap, cur, hv, _, hg', _⟩
  · rw [hv] at hk; cases hk
  · rw [hv] at hk; simp [Value.ownBlock] at hk; subst hk
    refine ⟨ne_of_elem hg' h.blk (by decide), fun hf => ?_⟩
    rw [blk_own (n := st.free.length) (c := fc)] at hf
    rcases h.free.2 with ⟨hv, _⟩ | ⟨g2, cap, cur, hv, _, hg2, _⟩
    · rw [hv] at hf; cases hf
    · rw [hv] at hf; simp [Value.ownBlock] at hf; subst hf; exact ne_of_elem hg' hg2 (by decide) rfl

theorem ArenaAt.free_block {w : World} {A : Nat} {st : St} {F : Nat → Prop} {pa fa : Option Addr} {pc fc : Nat} {ptrs : List Value} (h : ArenaAt w A st F pa pc fa fc ptrs) {k : Nat} (hk : Blk fa k) :
    k ≠ A ∧ ¬ Blk pa k := by
  refine ⟨?_, fun hp => (h.pages_block hp).2 hk⟩
  rw [blk_own (n := st.free.length) (c := fc)] at hk
  rcases h.free.2 with ⟨hv, _⟩ | ⟨g', cap, cur, hv, _, hg', _⟩
  · rw [hv] at hk; cases hk
  · rw [hv] at hk; simp [Value.ownBlock] at hk; subst hk
    exact ne_of_elem hg' h.blk (by decide)

/-- A TURNED ARENA: its struct, its two rows and its new pages are known; what it did not write stands. -/
theorem ArenaAt.update {w w3 : World} {A : Nat} {st st' : St} {F : Nat → Prop} {pa fa pa' fa' : Option Addr} {pc fc pc' fc' : Nat} {ptrs ptrs' : List Value} (h : ArenaAt w A st F pa pc fa fc ptrs)
    (he : Ext (Hot A pa fa) w w3) (wf' : st'.WF)
    (blk : w3.heap[A]? = some (.cells #[.slice pa' st'.pages.length pc', .slice fa' st'.free.length fc', .int .i64 st'.quota] 71 (0, 0)))
    (pages : w3.ownsRow 0 96 1 (.slice pa' st'.pages.length pc') st'.pages.length ptrs')
    (free : w3.ownsRow 0 3 1 (.slice fa' st'.free.length fc') st'.free.length (st'.free.map i64))
    (hlen : ptrs'.length = st'.pages.length)
    (hptrs : ∀ (i : Nat) (o : Option Pg), st'.pages[i]? = some o → match o with
      | none => ptrs'[i]? = some (.pointer none)
      | some p => (∃ j : Nat, st.pages[j]? = some (some p) ∧ ptrs'[i]? = ptrs[j]?) ∨
        ∃ g, ptrs'[i]? = some (.pointer (some ⟨g, 0, none⟩)) ∧ w3.heap[g]? = some (.cells (cellsOf p.bytes) 133 (0, 0)) ∧ w.heap.size ≤ g)
    (hpa : ∀ k, Blk pa' k → Blk pa k ∨ w.heap.size ≤ k) (hfa : ∀ k, Blk fa' k → Blk fa k ∨ w.heap.size ≤ k) :
    ∃ F', Arena w3 A st' F' ∧ Ext F w w3 ∧ Grow F F' w := by
  have hs := he.size
  refine ⟨fun k => k < w3.heap.size ∧ (F k ∨ w.heap.size ≤ k), ⟨pa', pc', fa', fc', ptrs', wf', blk, pages, free, ⟨hlen, fun i o ho => ?_⟩, ?_, ?_, ?_, fun k hk => hk.1⟩, ?_, fun k hk => hk.2⟩
  · have := hptrs i o ho
    cases o with
    | none => exact this
    | some p =>
      rcases this with ⟨j, hj, hp⟩ | ⟨g, h1, h2, h3⟩
      · obtain ⟨g, h1, h2, h3⟩ := h.ptrs.2 j (some p) hj
        exact ⟨g, hp.trans h1, he.heap h2 (h.cold h2), Nat.lt_of_lt_of_le (h.lt g h3) hs, .inl h3⟩
      · exact ⟨g, h1, h2, lt_of_heap h2, .inr h3⟩
  · exact ⟨lt_of_heap blk, .inl h.inA⟩
  · intro k hk
    refine ⟨?_, ?_⟩
    · rw [blk_own (n := st'.pages.length) (c := pc')] at hk
      exact (pages.lt k hk).2
    · exact (hpa k hk).imp (h.inP k) id
  · intro k hk
    refine ⟨?_, ?_⟩
    · rw [blk_own (n := st'.free.length) (c := fc')] at hk
      exact (free.lt k hk).2
    · exact (hfa k hk).imp (h.inF k) id
  · refine he.mono fun k hk => ?_
    rcases hk with rfl | hk | hk
    · exact h.inA
    · exact h.inP k hk
    · exact h.inF k hk

end Tw
