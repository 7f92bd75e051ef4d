/- Plain words: a node's page as bytes; an arena's state; and how both lie in memory. -/
import Derived.Test.YtanglcdiebkmiaaGreatMem
set_option linter.unusedSimpArgs false
set_option linter.unusedVariables false
namespace Tw
open Go Go.RowKit

def be2 (n : Nat) : List UInt8 := [UInt8.ofNat (n / 256), UInt8.ofNat n]
def be4 (n : Nat) : List UInt8 := be2 (n / 65536) ++ be2 n
/-- The slots of entries, the first of which ends at e. -/
def slots : Nat → List Str → List UInt8
  | _, [] => []
  | e, s :: r => be2 (e - s.size) ++ be2 s.size ++ slots (e - s.size) r
def tails : List Str → List UInt8
  | [] => []
  | s :: r => tails r ++ s.data.toList
/-- A node's page. -/
def enc (n : Nd) : List UInt8 :=
  (if n.leaf then 1 else 2) :: be2 n.recs.length ++ n.kids.flatMap be4 ++ slots 1024 n.recs ++ List.replicate (1024 - n.size) 0 ++ tails n.recs

@[simp] theorem length_be2 (n : Nat) : (be2 n).length = 2 := rfl
@[simp] theorem length_be4 (n : Nat) : (be4 n).length = 4 := rfl
theorem length_slots : ∀ (e : Nat) (l : List Str), (slots e l).length = 4 * l.length
  | _, [] => rfl
  | e, s :: r => by simp [slots, length_slots]; omega
theorem length_tails : ∀ (l : List Str), (tails l).length + 4 * l.length = weigh l
  | [] => rfl
  | s :: r => by have := length_tails r; simp [tails]; have : s.data.size = s.size := rfl; omega
theorem length_flat4 (l : List Nat) : (l.flatMap be4).length = 4 * l.length := by
  induction l with
  | nil => rfl
  | cons a l ih => simp [List.flatMap_cons, ih]; omega
theorem length_enc {n : Nd} (h : n.size ≤ 1024) : (enc n).length = 1024 := by
  have h1 := length_tails n.recs
  have h2 : n.size = 3 + 4 * n.kids.length + weigh n.recs := rfl
  simp only [enc, List.length_append, List.length_cons, length_be2, length_flat4, length_slots, List.length_replicate]
  omega

/-- A page in use: as it was given out (all 0), or a node. -/
inductive Pg where
  | raw
  | node (n : Nd)
def Pg.bytes : Pg → List UInt8
  | .raw => List.replicate 1024 0
  | .node n => enc n
def Pg.OK : Pg → Prop
  | .raw => True
  | .node n => n.Right
theorem Pg.len {p : Pg} (h : p.OK) : p.bytes.length = 1024 := by
  cases p with
  | raw => exact List.length_replicate
  | node n => exact length_enc h.fits

/-- An arena's state: the pages (none: not in use), the free numbers, the quota. -/
structure St where
  pages : List (Option Pg)
  free : List Nat
  quota : Nat

def St.get (st : St) (id : Nat) : Option Pg := if id = 0 then none else (st.pages[id - 1]?).join
def St.node (st : St) (id : Nat) : Option Nd := match st.get id with
  | some (.node n) => some n
  | _ => none
def St.used (st : St) : Nat := st.pages.length - st.free.length
def St.left (st : St) : Nat := st.quota - st.used

/-- A right state: the free numbers are those not in use, each once. -/
structure St.WF (st : St) : Prop where
  quota : st.quota ≤ 4096
  len : st.pages.length ≤ 4096
  nodup : st.free.Nodup
  free : ∀ i, i ∈ st.free ↔ 1 ≤ i ∧ i ≤ st.pages.length ∧ st.get i = none
  ok : ∀ i p, st.get i = some p → p.OK

theorem St.get_some {st : St} {id : Nat} {p : Pg} (h : st.get id = some p) : 1 ≤ id ∧ id ≤ st.pages.length ∧ st.pages[id - 1]? = some (some p) := by
  unfold St.get at h
  split at h
  · cases h
  · rename_i h0
    have h1 : st.pages[id - 1]? = some (some p) := by
      cases hx : st.pages[id - 1]? with
      | none => rw [hx] at h; cases h
      | some y => rw [hx] at h; simp at h; rw [h]
    have h2 := (List.getElem?_eq_some_iff.1 h1).1
    exact ⟨by omega, by omega, h1⟩

theorem St.node_some {st : St} {id : Nat} {n : Nd} (h : st.node id = some n) : st.get id = some (.node n) := by
  unfold St.node at h
  split at h
  · rename_i m hm; simp at h; rw [hm, h]
  · cases h

theorem nodup_le : ∀ {l m : List Nat}, l.Nodup → (∀ x ∈ l, x ∈ m) → l.length ≤ m.length
  | [], _, _, _ => Nat.zero_le _
  | a :: l, m, h, hs => by
    have h1 := List.nodup_cons.1 h
    have hm : a ∈ m := hs a (by simp)
    have := nodup_le (l := l) (m := m.erase a) h1.2 fun x hx => by
      have hne : x ≠ a := by rintro rfl; exact h1.1 hx
      exact (List.mem_erase_of_ne hne).2 (hs x (List.mem_cons_of_mem _ hx))
    rw [List.length_erase_of_mem hm] at this
    have := List.length_pos_of_mem hm
    simp only [List.length_cons]; omega

theorem St.WF.freeLe {st : St} (h : st.WF) : st.free.length ≤ st.pages.length := by
  have h1 : st.free ⊆ List.range' 1 st.pages.length := fun i hi => by
    have := (h.free i).1 hi; rw [List.mem_range']; exact ⟨i - 1, by omega, by omega⟩
  have := nodup_le h.nodup h1
  simpa using this

def u8 (b : UInt8) : Value := .int .u8 b.toNat
def i64 (n : Nat) : Value := .int .i64 n
/-- A page's cells. -/
def cellsOf (l : List UInt8) : Array Value := (l.map u8).toArray

theorem size_cellsOf (l : List UInt8) : (cellsOf l).size = l.length := by simp [cellsOf]

/-- The pointers to the pages. -/
def PtrsAt (w : World) (ptrs : List Value) (pages : List (Option Pg)) (F : Nat → Prop) : Prop :=
  ptrs.length = pages.length ∧ ∀ (i : Nat) (o : Option Pg), pages[i]? = some o → match o with
    | none => ptrs[i]? = some (.pointer none)
    | some p => ∃ g, ptrs[i]? = some (.pointer (some ⟨g, 0, none⟩)) ∧ w.heap[g]? = some (.cells (cellsOf p.bytes) 133 (0, 0)) ∧ F g

/-- AN ARENA IN MEMORY: its struct is block A; F: all its blocks. -/
structure ArenaAt (w : World) (A : Nat) (st : St) (F : Nat → Prop) (pa : Option Addr) (pc : Nat) (fa : Option Addr) (fc : Nat) (ptrs : List Value) : Prop where
  wf : st.WF
  blk : w.heap[A]? = some (.cells #[.slice pa st.pages.length pc, .slice fa st.free.length fc, .int .i64 st.quota] 71 (0, 0))
  pages : w.ownsRow 0 96 1 (.slice pa st.pages.length pc) st.pages.length ptrs
  free : w.ownsRow 0 3 1 (.slice fa st.free.length fc) st.free.length (st.free.map i64)
  ptrs : PtrsAt w ptrs st.pages F
  inA : F A
  inP : ∀ k, Blk pa k → F k
  inF : ∀ k, Blk fa k → F k
  lt : ∀ k, F k → k < w.heap.size

def Arena (w : World) (A : Nat) (st : St) (F : Nat → Prop) : Prop := ∃ pa pc fa fc ptrs, ArenaAt w A st F pa pc fa fc ptrs

theorem PtrsAt.ext {G F : Nat → Prop} {w w' : World} {ptrs : List Value} {pages : List (Option Pg)} (h : PtrsAt w ptrs pages F) (he : Ext G w w') (hd : ∀ k, F k → ¬ G k) : PtrsAt w' ptrs pages F := by
  refine ⟨h.1, fun i o ho => ?_⟩
  have := h.2 i o ho
  cases o with
  | none => exact this
  | some p => obtain ⟨g, h1, h2, h3⟩ := this; exact ⟨g, h1, he.heap h2 (hd g h3), h3⟩

theorem ArenaAt.ext {G F : Nat → Prop} {w w' : World} {A : Nat} {st : St} {pa fa : Option Addr} {pc fc : Nat} {ptrs : List Value} (h : ArenaAt w A st F pa pc fa fc ptrs) (he : Ext G w w') (hd : ∀ k, F k → ¬ G k) : ArenaAt w' A st F pa pc fa fc ptrs where
  wf := h.wf
  blk := he.heap h.blk (hd _ h.inA)
  pages := ownsRow_ext h.pages he fun k hk => hd k (h.inP k (by cases pa <;> simp_all [Value.ownBlock, Blk]))
  free := ownsRow_ext h.free he fun k hk => hd k (h.inF k (by cases fa <;> simp_all [Value.ownBlock, Blk]))
  ptrs := h.ptrs.ext he hd
  inA := h.inA
  inP := h.inP
  inF := h.inF
  lt := fun k hk => Nat.lt_of_lt_of_le (h.lt k hk) he.size

theorem Arena.ext {G F : Nat → Prop} {w w' : World} {A : Nat} {st : St} (h : Arena w A st F) (he : Ext G w w') (hd : ∀ k, F k → ¬ G k) : Arena w' A st F := by
  obtain ⟨pa, pc, fa, fc, ptrs, h⟩ := h
  exact ⟨pa, pc, fa, fc, ptrs, h.ext he hd⟩
theorem Arena.extNo {F : Nat → Prop} {w w' : World} {A : Nat} {st : St} (h : Arena w A st F) (he : Ext No w w') : Arena w' A st F := h.ext he fun _ _ f => f
theorem Arena.lt {F : Nat → Prop} {w : World} {A : Nat} {st : St} (h : Arena w A st F) : ∀ k, F k → k < w.heap.size := by
  obtain ⟨pa, pc, fa, fc, ptrs, h⟩ := h; exact h.lt
theorem Arena.wf {F : Nat → Prop} {w : World} {A : Nat} {st : St} (h : Arena w A st F) : st.WF := by
  obtain ⟨pa, pc, fa, fc, ptrs, h⟩ := h; exact h.wf

end Tw
