/- Memory: what a call may change, and slices that have a block of their own. No program is named. -/
import Derived.WalkKit
import Derived.WalkSpells
import Derived.BigQuiet
import Derived.Test.YtajpgjbepebcmaaGreatDoorProg
import Derived.Deep.LoopGhost
import Derived.Test.YtajpgjbepebcmaaGreatDoorCards
import Derived.Test.YtajpgjbepebcmaaGreatDoorTie
import Derived.ProofKit
import Derived.OpenShut
import Derived.SliceStrings
import Derived.Carry
import Derived.Deep.DeepHandedRow
import Derived.Lib.LaidTab
import Derived.Lib.LazyBuf
import Derived.MapKept
import Derived.OrdersHeld
import Derived.Laws.Externs
import Derived.StillTailTactics
import Derived.Deep.QuietTactic
/- Memory: what a call may change, and slices that have a block of their own. No program is named. -/
namespace Go.Em
open Go.RowKit

/-- A fact that is kept from the walk. -/
structure Kp (p : Prop) : Prop where mk :: (out : p)

abbrev Blocks := Nat → Prop
def NoB : Blocks := fun _ => False
def One (b : Nat) : Blocks := fun x => x = b
def Or2 (F G : Blocks) : Blocks := fun b => F b ∨ G b
def Opt (o : Option Nat) : Blocks := fun b => o = some b

/-- Blocks that are not in F are as they were. -/
structure Keep (w : World) (F : Blocks) (w' : World) : Prop where
  os : w'.os = w.os
  tape : w'.tape = w.tape
  output : w'.output = w.output
  size : w.heap.size ≤ w'.heap.size
  keep : ∀ b, b < w.heap.size → ¬ F b → w'.heap[b]? = w.heap[b]?

def Fresh (w : World) (F F' : Blocks) : Prop := ∀ b, F' b → F b ∨ w.heap.size ≤ b

theorem Keep.refl (w : World) (F : Blocks) : Keep w F w := ⟨rfl, rfl, rfl, Nat.le_refl _, fun _ _ _ => rfl⟩
theorem Keep.trans {w w1 w2 : World} {F F1 : Blocks} (h : Keep w F w1) (k : Keep w1 F1 w2) (hf : Fresh w F F1) : Keep w F w2 :=
  ⟨k.os.trans h.os, k.tape.trans h.tape, k.output.trans h.output, Nat.le_trans h.size k.size, fun b hb hn =>
    (k.keep b (Nat.lt_of_lt_of_le hb h.size) (fun h1 => by rcases hf b h1 with h2 | h2; exact hn h2; omega)).trans (h.keep b hb hn)⟩
theorem Keep.mono {w w1 : World} {F G : Blocks} (h : Keep w F w1) (hf : ∀ b, F b → G b) : Keep w G w1 :=
  ⟨h.os, h.tape, h.output, h.size, fun b hb hn => h.keep b hb fun hF => hn (hf b hF)⟩
theorem Keep.alloc {w w1 : World} {F : Blocks} (h : Keep w F w1) (o : Obj) : Keep w F (w1.alloc o) :=
  ⟨h.os, h.tape, h.output, by have := h.size; simp; omega, fun b hb hn => (Below.heap_alloc w1 o b (by have := h.size; omega)).trans (h.keep b hb hn)⟩
theorem Keep.drew {w w1 : World} {F : Blocks} (h : Keep w F w1) : Keep w F w1.drew := ⟨h.os, h.tape, h.output, h.size, h.keep⟩
theorem Keep.drewN {w w1 : World} {F : Blocks} (h : Keep w F w1) (n : Nat) : Keep w F (w1.drewN n) := ⟨h.os, h.tape, h.output, h.size, h.keep⟩
theorem Keep.setCell {w w1 : World} {F : Blocks} (h : Keep w F w1) {a : Addr} (ha : F a.block ∨ w.heap.size ≤ a.block) (v : Value) : Keep w F (w1.setCell a v) :=
  ⟨h.os, h.tape, h.output, by have := h.size; simpa [World.setCell] using this, fun b hb hn =>
    (Below.heap_setCell w1 a v b (fun e => by rcases ha with ha | ha; exact hn (e ▸ ha); omega)).trans (h.keep b hb hn)⟩
theorem Keep.setRow {w w1 : World} {F : Blocks} (h : Keep w F w1) {g : Nat} (ha : F g ∨ w.heap.size ≤ g) (cs : Array Value) : Keep w F (w1.setRow g cs) :=
  ⟨h.os, h.tape, h.output, by have := h.size; simpa [World.setRow] using this, fun b hb hn =>
    (setRow_other w1 g b cs (fun e => by rcases ha with ha | ha; exact hn (e ▸ ha); omega)).trans (h.keep b hb hn)⟩
theorem Keep.below {w w' : World} (h : Keep w NoB w') : Below w.heap.size w w' := ⟨h.os, h.tape, h.output, h.size, fun b hb => h.keep b hb (fun h => h)⟩
theorem Keep.of_below {w w' : World} (h : Below w.heap.size w w') (F : Blocks) : Keep w F w' := ⟨h.os, h.tape, h.output, h.size, fun b hb _ => h.block b hb⟩
theorem Keep.blk {w w' : World} {F : Blocks} (h : Keep w F w') {b : Nat} {o : Obj} (hb : w.heap[b]? = some o) (hn : ¬ F b) : w'.heap[b]? = some o :=
  (h.keep b (Array.getElem?_eq_some_iff.1 hb).1 hn).trans hb
theorem Keep.cell {w w' : World} {F : Blocks} (h : Keep w F w') {a : Addr} {v : Value} (hc : w.cell? a = some v) (hn : ¬ F a.block) : w'.cell? a = some v := by
  rw [World.cell?_of_block (w := w) (h.keep _ (World.block_lt_of_cell? w a hc) hn)]; exact hc
theorem Keep.frozen {w w' : World} {F : Blocks} (h : Keep w F w') {a : Addr} (hb : a.block < w.heap.size) (hn : ¬ F a.block) : w'.frozen? a = w.frozen? a :=
  World.frozen?_of_block (w := w) (h.keep _ hb hn)
theorem Fresh.refl (w : World) (F : Blocks) : Fresh w F F := fun _ h => .inl h
theorem Fresh.trans {w w1 : World} {F F1 F2 : Blocks} (h : Fresh w F F1) (hs : w.heap.size ≤ w1.heap.size) (k : Fresh w1 F1 F2) : Fresh w F F2 := fun b hb => by
  rcases k b hb with h1 | h1
  · exact h b h1
  · exact .inr (by omega)

theorem heap_two (w : World) (o1 o2 : Obj) : ((w.alloc o1).alloc o2).drew.heap[w.heap.size + 1]? = some o2 ∧ ((w.alloc o1).alloc o2).drew.heap[w.heap.size]? = some o1 := by
  have e : (w.alloc o1).heap.size = w.heap.size + 1 := by simp
  refine ⟨?_, ?_⟩
  · have := heap_alloc_new (w.alloc o1) o2
    rw [e] at this; exact this
  · exact (Below.heap_alloc (w.alloc o1) o2 _ (by omega)).trans (heap_alloc_new w o1)

/-- A slice that begins its block: n elements of type e, of sz cells each; the block, if there is one. -/
structure Sl (w : World) (e sz : Nat) (a : Option Addr) (n c : Nat) (xs : List Value) (b : Option Nat) : Prop where
  len : xs.length = n * sz
  le : n ≤ c
  max : c ≤ 9223372036854775807
  at_ : (b = none ∧ a = none ∧ c = 0) ∨ ∃ g cur, b = some g ∧ a = some ⟨g, 0, none⟩ ∧ w.heap[g]? = some (.cells cur e (0, 0)) ∧ c * sz ≤ cur.size ∧ cur.toList.take (n * sz) = xs

theorem Sl.nil (w : World) (e sz : Nat) : Sl w e sz none 0 0 [] none := ⟨by simp, Nat.le_refl _, by omega, .inl ⟨rfl, rfl, rfl⟩⟩
section
variable {w w' : World} {e sz : Nat} {a : Option Addr} {n c : Nat} {xs : List Value} {b : Option Nat}
theorem Sl.lt (h : Sl w e sz a n c xs b) {g : Nat} (hg : b = some g) : g < w.heap.size := by
  rcases h.at_ with ⟨h1, _⟩ | ⟨g', cur, h1, _, h3, _⟩
  · rw [hg] at h1; cases h1
  · rw [hg] at h1; cases h1; exact (Array.getElem?_eq_some_iff.1 h3).1
theorem Sl.type (h : Sl w e sz a n c xs b) {g : Nat} (hg : b = some g) : ∃ cur, w.heap[g]? = some (.cells cur e (0, 0)) := by
  rcases h.at_ with ⟨h1, _⟩ | ⟨g', cur, h1, _, h3, _⟩
  · rw [hg] at h1; cases h1
  · rw [hg] at h1; cases h1; exact ⟨cur, h3⟩
theorem Sl.move (h : Sl w e sz a n c xs b) (hk : ∀ g, b = some g → w'.heap[g]? = w.heap[g]?) : Sl w' e sz a n c xs b := by
  refine ⟨h.len, h.le, h.max, ?_⟩
  rcases h.at_ with h1 | ⟨g, cur, h1, h2, h3, h4⟩
  · exact .inl h1
  · exact .inr ⟨g, cur, h1, h2, (hk g h1).trans h3, h4⟩
theorem Sl.keep (h : Sl w e sz a n c xs b) {F : Blocks} (hk : Keep w F w') (hn : ∀ g, b = some g → ¬ F g) : Sl w' e sz a n c xs b :=
  h.move fun g hg => hk.keep g (h.lt hg) (hn g hg)
theorem Sl.has (h : Sl w e sz a n c xs b) (hc : 0 < c) : ∃ g cur, b = some g ∧ a = some ⟨g, 0, none⟩ ∧ w.heap[g]? = some (.cells cur e (0, 0)) ∧ c * sz ≤ cur.size ∧ cur.toList.take (n * sz) = xs := by
  rcases h.at_ with ⟨_, _, h1⟩ | h1
  · omega
  · exact h1
theorem cell_blk {g : Nat} {cs : Array Value} {t : Nat} {fr : Nat × Nat} (h : w.heap[g]? = some (.cells cs t fr)) (i : Nat) : w.cell? ⟨g, i, none⟩ = cs[i]? := cell_of_row w g i cs t fr h
theorem free_blk {g : Nat} {cs : Array Value} {t : Nat} (h : w.heap[g]? = some (.cells cs t (0, 0))) (i : Nat) : w.frozen? ⟨g, i, none⟩ = false := by simp [World.frozen?, h]
theorem Sl.cell (h : Sl w e sz a n c xs b) {g : Nat} (hg : b = some g) {j : Nat} {v : Value} (hj : xs[j]? = some v) : w.cell? ⟨g, j, none⟩ = some v := by
  rcases h.at_ with ⟨h1, _⟩ | ⟨g', cur, h1, h2, h3, h4, h5⟩
  · rw [hg] at h1; cases h1
  · rw [hg] at h1; cases h1
    rw [cell_blk h3, ← Array.getElem?_toList]
    rw [← h5, List.getElem?_take] at hj
    split at hj
    · exact hj
    · cases hj
theorem Sl.frozen (h : Sl w e sz a n c xs b) {g : Nat} (hg : b = some g) (j : Nat) : w.frozen? ⟨g, j, none⟩ = false := by
  obtain ⟨cur, hc⟩ := h.type hg
  exact free_blk hc j
theorem Sl.nonnil (h : Sl w e sz a n c xs b) (hx : 0 < n) : ∃ g, b = some g ∧ a = some ⟨g, 0, none⟩ := by
  obtain ⟨g, _, h1, h2, _⟩ := h.has (by have := h.le; omega)
  exact ⟨g, h1, h2⟩
theorem heap_setCell_same {g : Nat} {cs : Array Value} {t : Nat} {fr : Nat × Nat} (h : w.heap[g]? = some (.cells cs t fr)) (j : Nat) (v : Value) :
    (w.setCell ⟨g, j, none⟩ v).heap[g]? = some (.cells (cs.setIfInBounds j v) t fr) := by
  have hlt : g < w.heap.size := (Array.getElem?_eq_some_iff.1 h).1
  have hv : w.heap[g] = .cells cs t fr := (Array.getElem?_eq_some_iff.1 h).2
  unfold World.setCell
  rw [Array.getElem?_eq_getElem (by simpa using hlt), Array.getElem_modify]
  simp [hv]
/-- One cell of it is written. -/
theorem Sl.put (h : Sl w e sz a n c xs b) {g : Nat} (hg : b = some g) (j : Nat) (v : Value) : Sl (w.setCell ⟨g, j, none⟩ v) e sz a n c (xs.set j v) b := by
  refine ⟨by simpa using h.len, h.le, h.max, ?_⟩
  rcases h.at_ with ⟨h1, _⟩ | ⟨g', cur, h1, h2, h3, h4, h5⟩
  · rw [hg] at h1; cases h1
  · rw [hg] at h1; cases h1
    refine .inr ⟨g, cur.setIfInBounds j v, hg, h2, heap_setCell_same h3 j v, by simpa using h4, ?_⟩
    rw [Array.toList_setIfInBounds, List.take_set, h5]
/-- The first ones alone. -/
theorem Sl.take (h : Sl w e sz a n c xs b) (m : Nat) (hm : m ≤ n) : Sl w e sz a m c (xs.take (m * sz)) b := by
  have hms : m * sz ≤ n * sz := Nat.mul_le_mul_right _ hm
  refine ⟨by rw [List.length_take, h.len]; omega, by have := h.le; omega, h.max, ?_⟩
  rcases h.at_ with h1 | ⟨g, cur, h1, h2, h3, h4, h5⟩
  · exact .inl h1
  · exact .inr ⟨g, cur, h1, h2, h3, h4, by rw [← h5, List.take_take, Nat.min_eq_left hms]⟩
/-- With less room. -/
theorem Sl.clip (h : Sl w e sz a n c xs b) (c' : Nat) (h1 : n ≤ c') (h2 : c' ≤ c) : Sl w e sz a n c' xs b := by
  refine ⟨h.len, h1, by have := h.max; omega, ?_⟩
  rcases h.at_ with ⟨q1, q2, q3⟩ | ⟨g, cur, q1, q2, q3, q4, q5⟩
  · exact .inl ⟨q1, q2, by omega⟩
  · exact .inr ⟨g, cur, q1, q2, q3, Nat.le_trans (Nat.mul_le_mul_right _ h2) q4, q5⟩
/-- A new block. -/
theorem Sl.made (w : World) (e sz n c : Nat) (cur : Array Value) (hn : n ≤ c) (hc : c ≤ 9223372036854775807) (hs : c * sz ≤ cur.size) :
    Sl (w.alloc (.cells cur e)) e sz (some ⟨w.heap.size, 0, none⟩) n c (cur.toList.take (n * sz)) (some w.heap.size) := by
  have hns : n * sz ≤ c * sz := Nat.mul_le_mul_right _ hn
  refine ⟨by rw [List.length_take, Array.length_toList]; omega, hn, hc, .inr ⟨_, cur, rfl, rfl, heap_alloc_new w _, hs, rfl⟩⟩
end

section
variable {P : Program} {w : World}
/-- append of what lies at an address. -/
theorem run_append_sl (t ty e : TypeId) (i : TypeInfo) (z : Value) (size bytes : Nat) (ht : P.underlying t = some (.slice e)) (hi : P.info? e = some i) (hz : i.zero = some z)
    (hsize : i.size = size) (hby : i.bytes = bytes) (hzs : z.cells.size = size)
    {a : Option Addr} {n c : Nat} {xs : List Value} {b : Option Nat} (hown : Sl w e size a n c xs b)
    (ad : Addr) (m c' : Nat) (news : List Value) (hl : news.length = m * size) (hnews : ∀ j u, news[j]? = some u → w.cell? (ad.add j) = some u) (h1 : ∀ u ∈ news, u.oneCell' = true)
    (hm : 0 < m) (h63 : n + m ≤ 9223372036854775807) (hbytes : (n + m) * bytes ≤ 140737488355328) :
    ∃ a' c'' b' w', (Builtin.append_ #[t, t] ty #[.slice a n c, .slice (some ad) m c']).run P w = .ok (.slice a' (n + m) c'') w' ∧ Sl w' e size a' (n + m) c'' (xs ++ news) b' ∧
      Keep w (Opt b) w' ∧ Fresh w (Opt b) (Opt b') ∧ ∃ g, b' = some g := by
  subst hsize
  subst hby
  have hlen : (xs ++ news).length = (n + m) * i.size := by rw [List.length_append, hown.len, hl, Nat.add_mul]
  have grown : ∀ (old : Nat), old < n + m →
      Sl (w.drew.alloc (.cells (xs.toArray ++ news.toArray ++ Builtin.zeroCells z.cells (grownCap w (n + m) old e - (n + m))) e)) e i.size
        (some ⟨w.heap.size, 0, none⟩) (n + m) (grownCap w (n + m) old e) (xs ++ news) (some w.heap.size) := by
    intro old ho
    have hge := grownCap_ge w (n + m) old e
    have hcm : grownCap w (n + m) old e ≤ maxLen := grownCap_le_maxLen w (n + m) old e (by simp only [maxLen]; omega)
    have := Sl.made w.drew e i.size (n + m) (grownCap w (n + m) old e) (xs.toArray ++ news.toArray ++ Builtin.zeroCells z.cells (grownCap w (n + m) old e - (n + m))) hge (by simpa only [maxLen] using hcm)
      (by
        simp only [Array.size_append, List.size_toArray, size_zeroCells, hzs, hown.len, hl, ← Nat.add_mul]
        refine Nat.mul_le_mul_right _ ?_
        omega)
    have e2 : (xs.toArray ++ news.toArray ++ Builtin.zeroCells z.cells (grownCap w (n + m) old e - (n + m))).toList.take ((n + m) * i.size) = xs ++ news := by
      simp only [Array.toList_append, List.append_assoc]
      rw [← List.append_assoc, ← hlen]
      exact List.take_left
    rw [e2] at this
    exact this
  rcases hown.at_ with ⟨rfl, rfl, rfl⟩ | ⟨g, cur, rfl, rfl, hg, hcs, htake⟩
  · have hn0 : n = 0 := by have := hown.le; omega
    subst hn0
    have hx : xs = [] := List.eq_nil_of_length_eq_zero (by simpa using hown.len)
    subst hx
    have hr := run_append_nil (P := P) w t ty e i z ht hi hz ad m c' news hl hnews (by omega) (by omega) (by have hb := hbytes; simp only [Nat.zero_add] at hb; omega)
    have hgr := grown 0 (by omega)
    simp only [Nat.zero_add, List.nil_append, Array.empty_append] at hgr ⊢
    exact ⟨_, _, _, _, hr, hgr, ((Keep.refl w _).drew).alloc _, fun b hb => .inr (by cases hb; exact Nat.le_refl _), _, rfl⟩
  · by_cases hroom : n + m ≤ c
    · have hfit : n * i.size + news.length ≤ cur.size := by rw [hl, ← Nat.add_mul]; exact Nat.le_trans (Nat.mul_le_mul_right _ hroom) hcs
      have hr := run_append_room (P := P) w t ty e i ht hi g n c cur hg ad m c' news hl hnews h1 hroom hfit
      refine ⟨_, _, _, _, hr, ⟨hlen, hroom, hown.max, .inr ⟨g, _, rfl, rfl, setRow_heap w g cur _ e _ hg, ?_, ?_⟩⟩, (Keep.refl w (Opt (some g))).setRow (g := g) (.inl rfl) _, Fresh.refl w _, _, rfl⟩
      · simp only [List.size_toArray, List.length_append, List.length_take, List.length_drop, Array.length_toList]
        omega
      · rw [htake, ← hlen]
        exact List.take_left
    · have holds : ∀ j u, xs[j]? = some u → w.cell? ((⟨g, 0, none⟩ : Addr).add j) = some u := fun j u hu => by rw [Addr.add_lit, Nat.zero_add]; exact hown.cell rfl hu
      have hr := run_append_grow (P := P) w t ty e i z ht hi hz ⟨g, 0, none⟩ n c xs hown.len holds ad m c' news hl hnews (by omega) (by omega) (growslice_fits (by omega) hbytes)
      have hgr := grown c (by omega)
      exact ⟨_, _, _, _, hr, hgr, ((Keep.refl w _).drew).alloc _, fun b hb => .inr (by cases hb; exact Nat.le_refl _), _, rfl⟩

/-- What lies at an address is read as this. -/
structure Rd (w : World) (sz : Nat) (a : Option Addr) (n : Nat) (xs : List Value) : Prop where
  len : xs.length = n * sz
  cells : ∀ j u, xs[j]? = some u → ∃ ad, a = some ad ∧ w.cell? (ad.add j) = some u
  one : ∀ u ∈ xs, u.oneCell' = true

theorem run_append_none (t ty e : TypeId) (i : TypeInfo) (ht : P.underlying t = some (.slice e)) (hi : P.info? e = some i) (a : Option Addr) (n c : Nat) (hn : n ≤ c) (a' : Option Addr) (c' : Nat) :
    (Builtin.append_ #[t, t] ty #[.slice a n c, .slice a' 0 c']).run P w = .ok (.slice a n c) w := by
  cases a' <;> cases a <;> simp [Builtin.append_, run_underlying ht, sizeOf, typeInfo, hi, Builtin.lenOf, hn, Builtin.firstCells, loadCells, loadCellsFrom, storeCells]

theorem run_append_rd (t ty e : TypeId) (z : Value) (size bytes : Nat) (ht : P.underlying t = some (.slice e)) (hinfo : (P.info? e).map (fun i => (i.zero, i.size, i.bytes)) = some (some z, size, bytes)) (hzs : z.cells.size = size)
    (hsz : 0 < size) {a : Option Addr} {n c : Nat} {xs : List Value} {b : Option Nat} (hown : Sl w e size a n c xs b)
    {a2 : Option Addr} {m c' : Nat} {news : List Value} (hr : Rd w size a2 m news) (h63 : n + m ≤ 9223372036854775807) (hbytes : (n + m) * bytes ≤ 140737488355328) :
    ∃ a' c'' b' w', (Builtin.append_ #[t, t] ty #[.slice a n c, .slice a2 m c']).run P w = .ok (.slice a' (n + m) c'') w' ∧ Sl w' e size a' (n + m) c'' (xs ++ news) b' ∧
      Keep w (Opt b) w' ∧ Fresh w (Opt b) (Opt b') := by
  obtain ⟨i, hi, hz, hsize, hby⟩ := info_parts hinfo
  by_cases hm : m = 0
  · subst hm
    have hn : news = [] := List.eq_nil_of_length_eq_zero (by simpa using hr.len)
    subst hn
    refine ⟨a, c, b, w, run_append_none t ty e i ht hi a n c hown.le a2 c', by simpa using hown, Keep.refl _ _, Fresh.refl _ _⟩
  · have hl := hr.len
    have hpos : 0 < news.length := by rw [hl]; exact Nat.mul_pos (by omega) hsz
    obtain ⟨ad, rfl, _⟩ := hr.cells 0 news[0] (List.getElem?_eq_getElem hpos)
    obtain ⟨a', c'', b', w', h1, h2, h3, h4, _⟩ := run_append_sl (P := P) (w := w) t ty e i z size bytes ht hi hz hsize hby hzs hown ad m c' news hl (fun j u hj => by
      obtain ⟨ad', e1, e2⟩ := hr.cells j u hj; cases e1; exact e2) hr.one (by omega) h63 hbytes
    exact ⟨a', c'', b', w', h1, h2, h3, h4⟩

theorem Rd.of_sl {e sz : Nat} {a : Option Addr} {n c : Nat} {xs : List Value} {b : Option Nat} (h : Sl w e sz a n c xs b) (h1 : ∀ u ∈ xs, u.oneCell' = true) : Rd w sz a n xs := by
  refine ⟨h.len, fun j u hj => ?_, h1⟩
  have hn : 0 < n := by
    rcases Nat.eq_zero_or_pos n with h0 | h0
    · have := h.len; rw [h0, Nat.zero_mul] at this; have := (List.getElem?_eq_some_iff.1 hj).1; omega
    · exact h0
  obtain ⟨g, hb, ha⟩ := h.nonnil hn
  exact ⟨⟨g, 0, none⟩, ha, by rw [Addr.add_lit, Nat.zero_add]; exact h.cell hb hj⟩
theorem Rd.keep {w' : World} {sz : Nat} {a : Option Addr} {n : Nat} {xs : List Value} (h : Rd w sz a n xs) {F : Blocks} (hk : Keep w F w') (hn : ∀ ad, a = some ad → ¬ F ad.block) : Rd w' sz a n xs := by
  refine ⟨h.len, fun j u hj => ?_, h.one⟩
  obtain ⟨ad, ha, hc⟩ := h.cells j u hj
  have hb : (ad.add j).block = ad.block := by unfold Addr.add; split <;> rfl
  refine ⟨ad, ha, ?_⟩
  have hlt := World.block_lt_of_cell? w _ hc
  rw [World.cell?_of_block (w := w) (hk.keep _ hlt (by rw [hb]; exact hn ad ha))]
  exact hc
theorem Rd.drop {sz : Nat} {a : Option Addr} {n c : Nat} {xs : List Value} (h : Rd w sz a n xs) (k : Nat) (hc : n ≤ c) : Rd w sz (if c = k then a else a.map (·.add (k * sz))) (n - k) (xs.drop (k * sz)) := by
  refine ⟨by rw [List.length_drop, h.len, Nat.sub_mul], fun j u hj => ?_, fun u hu => h.one u (List.mem_of_mem_drop hu)⟩
  rw [List.getElem?_drop] at hj
  obtain ⟨ad, rfl, hc'⟩ := h.cells _ u hj
  have hlt := (List.getElem?_eq_some_iff.1 hj).1
  rw [h.len] at hlt
  have hkn : k < n := by
    rcases Nat.lt_or_ge k n with h1 | h1
    · exact h1
    · have := Nat.mul_le_mul_right sz h1; omega
  rw [if_neg (by omega)]
  refine ⟨ad.add (k * sz), rfl, ?_⟩
  have : (ad.add (k * sz)).add j = ad.add (k * sz + j) := by
    unfold Addr.add
    by_cases h1 : k * sz = 0 <;> by_cases h2 : j = 0 <;> simp_all [Nat.add_assoc]
  rw [this]; exact hc'

theorem wpList_append_rd {ops : Array Oper} {rest : List Oper} {o : Oper} {act : Act} {Q : Exit → Act → World → Prop} (hgd : o.guard = none) (s x : Operand) (t : TypeId)
    (ho : o.op = .call { callee := .builtin .append, args := #[s, x], argTypes := #[t, t] })
    (e : TypeId) (z : Value) (size bytes : Nat) (ht : P.underlying t = some (.slice e)) (hinfo : (P.info? e).map (fun i => (i.zero, i.size, i.bytes)) = some (some z, size, bytes)) (hzs : z.cells.size = size) (hsz : 0 < size)
    {a : Option Addr} {n c : Nat} {xs : List Value} {b : Option Nat} (hown : Sl w e size a n c xs b) (hs : act.eval s = .slice a n c)
    {a2 : Option Addr} {m c' : Nat} {news : List Value} (hr : Rd w size a2 m news) (hx : act.eval x = .slice a2 m c') (h63 : n + m ≤ 9223372036854775807) (hbytes : (n + m) * bytes ≤ 140737488355328)
    (h : ∀ a' c'' b' w', Sl w' e size a' (n + m) c'' (xs ++ news) b' → Keep w (Opt b) w' → Fresh w (Opt b) (Opt b') → wpList P ops Q rest (act.put o.dst (.slice a' (n + m) c'')) w') : wpList P ops Q (o :: rest) act w := by
  refine wpList_plain hgd fun K hK => ?_
  obtain ⟨a', c'', b', w', h1, h2, h3, h4⟩ := run_append_rd (P := P) (w := w) t o.type e z size bytes ht hinfo hzs hsz hown hr (c' := c') h63 hbytes
  unfold Oper.wp execOp
  simp only [ho, resolve, invoke, builtin, Sem.run_bind, Sem.run_pure, Result.andThen_ok, List.map_toArray, List.map_cons, List.map_nil, hs, hx, h1]
  exact hK _ _ (h a' c'' b' w' h2 h3 h4)
end
end Go.Em

/- The tree of lines of package tree, as plain lists: an arena of nodes; what its functions do, without Go and memory. -/
namespace Go.Em

structure ND where
  lines : List ByteArray
  kids : List Nat
  count : Nat

def ND.size (x : ND) : Nat := x.lines.length + x.kids.length

structure TS where
  nodes : List ND
  free : List Nat
  root : Nat
  bytes : Int := 0

def cap : Nat := 1048576

def TS.setNode (S : TS) (k : Nat) (x : ND) : TS := { S with nodes := S.nodes.set k x }

def TS.make (S : TS) (x : ND) : Option (Nat × TS) :=
  match S.free.getLast? with
  | some k => if k < S.nodes.length then some (k, { S with free := S.free.dropLast, nodes := S.nodes.set k x }) else none
  | none => if S.nodes.length < cap then some (S.nodes.length, { S with nodes := S.nodes ++ [x] }) else none

def TS.drop (S : TS) (k : Nat) : Option TS :=
  if k < S.nodes.length then
    if S.free.length < cap then some { S with nodes := S.nodes.set k ⟨[], [], 0⟩, free := S.free ++ [k] } else none
  else none

def addCounts (N : List ND) : List Nat → Nat → Option Nat
  | [], c => some c
  | kid :: ks, c =>
    match N[kid]? with
    | none => none
    | some y => if c + y.count < cap then addCounts N ks (c + y.count) else none

def TS.sum (S : TS) (k : Nat) : Option TS :=
  match S.nodes[k]? with
  | none => none
  | some x =>
    if k ∈ x.kids then none else
    if x.lines.length < cap then
      match addCounts S.nodes x.kids x.lines.length with
      | none => none
      | some c => some (S.setNode k ⟨x.lines, x.kids, c⟩)
    else none

def findGo (N : List ND) : List Nat → Nat → Nat → Option (Nat × Nat)
  | [], _, i => some (0, i)
  | kid :: rest, n, i =>
    match N[kid]? with
    | none => none
    | some y => if i < y.count ∨ rest = [] then some (n, i) else findGo N rest (n + 1) (i - y.count)

def TS.find (S : TS) (k i : Nat) : Option (Nat × Nat) :=
  match S.nodes[k]? with
  | none => none
  | some x => findGo S.nodes x.kids 0 i

def TS.at_ (S : TS) : Nat → Nat → Nat → Option (Nat × Nat)
  | 0, _, _ => none
  | f + 1, k, i =>
    match S.nodes[k]? with
    | none => none
    | some x =>
      if x.kids = [] then some (k, i) else
      match findGo S.nodes x.kids 0 i with
      | none => none
      | some (n, j) =>
        match x.kids[n]? with
        | none => none
        | some kid => S.at_ f kid j

def TS.len (S : TS) : Option Nat := (S.nodes[S.root]?).map (·.count)

def TS.split (S : TS) (k : Nat) : Option (Option Nat × TS) :=
  match S.nodes[k]? with
  | none => none
  | some x =>
    if x.size ≤ 8 then some (none, S) else if cap ≤ x.size then none else
    let half := x.size / 2
    let r : Option (ND × ND) :=
      if x.kids = [] then some (⟨x.lines.take half, x.kids, x.count⟩, ⟨x.lines.drop half, [], 0⟩)
      else if half < x.kids.length then some (⟨x.lines, x.kids.take half, x.count⟩, ⟨[], x.kids.drop half, 0⟩) else none
    match r with
    | none => none
    | some (x', y) =>
      match (S.setNode k x').make y with
      | none => none
      | some (other, S2) =>
        match S2.sum k with
        | none => none
        | some S3 =>
          match S3.sum other with
          | none => none
          | some S4 => some (some other, S4)

def TS.insert : Nat → TS → Nat → Nat → ByteArray → Option (Option Nat × TS)
  | 0, _, _, _, _ => none
  | f + 1, S, k, i, line =>
    match S.nodes[k]? with
    | none => none
    | some x =>
      let r : Option TS :=
        if x.kids = [] then
          if i ≤ x.lines.length ∧ x.lines.length < cap then some (S.setNode k ⟨x.lines.insertIdx i line, x.kids, x.count⟩) else none
        else
          match findGo S.nodes x.kids 0 i with
          | none => none
          | some (n, j) =>
            match x.kids[n]? with
            | none => none
            | some kid =>
              match TS.insert f S kid j line with
              | none => none
              | some (none, S') => some S'
              | some (some other, S') =>
                match S'.nodes[k]? with
                | none => none
                | some x' => if n + 1 ≤ x'.kids.length ∧ x'.kids.length < cap then some (S'.setNode k ⟨x'.lines, x'.kids.insertIdx (n + 1) other, x'.count⟩) else none
      match r with
      | none => none
      | some S1 =>
        match S1.sum k with
        | none => none
        | some S2 => S2.split k

def TS.insertTop (f : Nat) (S : TS) (i : Nat) (line : ByteArray) : Option TS :=
  match TS.insert f S S.root i line with
  | none => none
  | some (none, S') => some S'
  | some (some other, S') =>
    match S'.make ⟨[], [S'.root, other], 0⟩ with
    | none => none
    | some (r, S2) => ({ S2 with root := r }).sum r

def TS.move (S : TS) (a b : Nat) (back : Bool) : Option TS :=
  match S.nodes[a]?, S.nodes[b]? with
  | some x, some y =>
    if a = b ∨ y.lines.length ≥ cap ∨ y.kids.length ≥ cap then none else
    let r : Option (ND × ND) :=
      if x.kids = [] then
        if back then
          match x.lines.getLast? with
          | none => none
          | some z => some (⟨x.lines.dropLast, x.kids, x.count⟩, ⟨z :: y.lines, y.kids, y.count⟩)
        else
          match x.lines with
          | [] => none
          | z :: zs => some (⟨zs, x.kids, x.count⟩, ⟨y.lines ++ [z], y.kids, y.count⟩)
      else
        if back then
          match x.kids.getLast? with
          | none => none
          | some z => some (⟨x.lines, x.kids.dropLast, x.count⟩, ⟨y.lines, z :: y.kids, y.count⟩)
        else
          match x.kids with
          | [] => none
          | z :: zs => some (⟨x.lines, zs, x.count⟩, ⟨y.lines, y.kids ++ [z], y.count⟩)
    match r with
    | none => none
    | some (x', y') =>
      match ((S.setNode a x').setNode b y').sum a with
      | none => none
      | some S2 => S2.sum b
  | _, _ => none

def TS.merge (S : TS) (k n : Nat) : Option TS :=
  match S.nodes[k]? with
  | none => none
  | some w =>
    match w.kids[n]?, w.kids[n + 1]? with
    | some a, some b =>
      if a = b ∨ k = a ∨ k = b then none else
      match S.nodes[a]?, S.nodes[b]? with
      | some x, some y =>
        if x.lines.length + y.lines.length < cap ∧ x.kids.length + y.kids.length < cap then
          match (S.setNode a ⟨x.lines ++ y.lines, x.kids ++ y.kids, x.count⟩).drop b with
          | none => none
          | some S2 => (S2.setNode k ⟨w.lines, w.kids.eraseIdx (n + 1), w.count⟩).sum a
        else none
      | _, _ => none
    | _, _ => none

/-- How much a kid has (none: too much); 0: there is no such kid. -/
def kidSize (N : List ND) (kids : List Nat) (n : Nat) : Option Nat :=
  match kids[n]? with
  | none => some 0
  | some kid =>
    match N[kid]? with
    | none => none
    | some y => if y.size ≤ 8 then some y.size else none

def TS.mend (S : TS) (k n : Nat) : Option TS :=
  match S.nodes[k]? with
  | none => none
  | some w =>
    match kidSize S.nodes w.kids n with
    | none => none
    | some s0 =>
      if 4 ≤ s0 then some S else
      match (if n = 0 then some 0 else kidSize S.nodes w.kids (n - 1)) with
      | none => none
      | some s1 =>
        if 4 < s1 then
          match w.kids[n - 1]?, w.kids[n]? with
          | some a, some b => S.move a b true
          | _, _ => none
        else
          match kidSize S.nodes w.kids (n + 1) with
          | none => none
          | some s2 =>
            if 4 < s2 then
              match w.kids[n + 1]?, w.kids[n]? with
              | some a, some b => S.move a b false
              | _, _ => none
            else if 0 < n then S.merge k (n - 1)
            else S.merge k n

def TS.remove : Nat → TS → Nat → Nat → Option (ByteArray × TS)
  | 0, _, _, _ => none
  | f + 1, S, k, i =>
    match S.nodes[k]? with
    | none => none
    | some x =>
      let r : Option (ByteArray × TS) :=
        if x.kids = [] then
          match x.lines[i]? with
          | none => none
          | some z => some (z, S.setNode k ⟨x.lines.eraseIdx i, x.kids, x.count⟩)
        else
          match findGo S.nodes x.kids 0 i with
          | none => none
          | some (n, j) =>
            match x.kids[n]? with
            | none => none
            | some kid =>
              match TS.remove f S kid j with
              | none => none
              | some (z, S') =>
                match S'.mend k n with
                | none => none
                | some S2 => some (z, S2)
      match r with
      | none => none
      | some (z, S1) =>
        match S1.sum k with
        | none => none
        | some S2 => some (z, S2)

def TS.deleteTop (f : Nat) (S : TS) (i : Nat) : Option TS :=
  match TS.remove f S S.root i with
  | none => none
  | some (_, S') =>
    match S'.nodes[S'.root]? with
    | none => none
    | some x =>
      match x.kids with
      | [kid] =>
        match S'.drop S'.root with
        | none => none
        | some S2 => some { S2 with root := kid }
      | _ => some S'

def TS.walk (S : TS) : Nat → Nat → Option (List ByteArray)
  | 0, _ => none
  | f + 1, k =>
    match S.nodes[k]? with
    | none => none
    | some x => walkAll (S.walk f) x.kids x.lines
where
  walkAll (g : Nat → Option (List ByteArray)) : List Nat → List ByteArray → Option (List ByteArray)
    | [], acc => some acc
    | kid :: ks, acc =>
      match g kid with
      | none => none
      | some l => walkAll g ks (acc ++ l)

/-! ## What the nodes below one hold -/

def Fit (N : List ND) (k : Nat) : Prop := ∃ x, N[k]? = some x ∧ 4 ≤ x.size ∧ x.size ≤ 8

def All3 (R : Nat → List ByteArray → List Nat → Prop) : List Nat → List (List ByteArray) → List (List Nat) → Prop
  | [], [], [] => True
  | k :: ks, l :: ls, u :: us => R k l u ∧ All3 R ks ls us
  | _, _, _ => False

def Rep (N : List ND) : Nat → Nat → List ByteArray → List Nat → Prop
  | 0, k, l, us => us = [k] ∧ N[k]? = some ⟨l, [], l.length⟩
  | h + 1, k, l, us => ∃ kids ls uss, N[k]? = some ⟨[], kids, l.length⟩ ∧ kids ≠ [] ∧
      All3 (fun k l u => Rep N h k l u ∧ Fit N k) kids ls uss ∧ l = ls.flatten ∧ us = k :: uss.flatten

/-- The nodes in use, beside those that are free. -/
def Part (A : List Nat) (S : TS) : Prop := (A ++ S.free).Perm (List.range S.nodes.length)

end Go.Em

/- How a tree of lines lies in memory. -/
namespace Go.Em
open Go.RowKit

def vstr (l : List ByteArray) : List Value := l.map Value.string
def vint (l : List Nat) : List Value := l.map fun (k : Nat) => Value.int .i64 (k : Int)
theorem vstr_length (l : List ByteArray) : (vstr l).length = l.length := by simp [vstr]
theorem vint_length (l : List Nat) : (vint l).length = l.length := by simp [vint]
theorem vstr_get {l : List ByteArray} {i : Nat} {x : ByteArray} (h : l[i]? = some x) : (vstr l)[i]? = some (.string x) := by simp [vstr, h]
theorem vint_get {l : List Nat} {i : Nat} {x : Nat} (h : l[i]? = some x) : (vint l)[i]? = some (.int .i64 (x : Int)) := by simp [vint, h]

/-- Where the lines and the kids of a node lie. -/
structure RN where
  la : Option Addr
  lc : Nat
  lb : Option Nat
  ka : Option Addr
  kc : Nat
  kb : Option Nat

def RN.cells (r : RN) (x : ND) : List Value := [.slice r.la x.lines.length r.lc, .slice r.ka x.kids.length r.kc, .int .i64 (x.count : Int)]

def flat : List RN → List ND → List Value
  | r :: rs, x :: xs => r.cells x ++ flat rs xs
  | _, _ => []

theorem flat_get : ∀ {rs : List RN} {xs : List ND} {k : Nat} {r : RN} {x : ND}, rs[k]? = some r → xs[k]? = some x →
    (flat rs xs)[k * 3]? = some (.slice r.la x.lines.length r.lc) ∧ (flat rs xs)[k * 3 + 1]? = some (.slice r.ka x.kids.length r.kc) ∧ (flat rs xs)[k * 3 + 2]? = some (.int .i64 (x.count : Int))
  | _ :: _, _ :: _, 0, r, x, hr, hx => by
    simp at hr hx; subst hr; subst hx
    simp [flat, RN.cells]
  | r0 :: rs, x0 :: xs, k + 1, r, x, hr, hx => by
    have h := flat_get (rs := rs) (xs := xs) (k := k) (by simpa using hr) (by simpa using hx)
    have e0 : (k + 1) * 3 = k * 3 + 3 := by omega
    have e1 : (k + 1) * 3 + 1 = k * 3 + 1 + 3 := by omega
    have e2 : (k + 1) * 3 + 2 = k * 3 + 2 + 3 := by omega
    rw [e0]
    have a0 : (flat (r0 :: rs) (x0 :: xs))[k * 3 + 3]? = (flat rs xs)[k * 3]? := by simp [flat, RN.cells]
    have a1 : (flat (r0 :: rs) (x0 :: xs))[k * 3 + 3 + 1]? = (flat rs xs)[k * 3 + 1]? := by rw [show k * 3 + 3 + 1 = k * 3 + 1 + 3 by omega]; simp [flat, RN.cells]
    have a2 : (flat (r0 :: rs) (x0 :: xs))[k * 3 + 3 + 2]? = (flat rs xs)[k * 3 + 2]? := by rw [show k * 3 + 3 + 2 = k * 3 + 2 + 3 by omega]; simp [flat, RN.cells]
    rw [a0, a1, a2]
    exact h
  | [], _, _, _, _, hr, _ => by simp at hr
  | _ :: _, [], _, _, _, _, hx => by simp at hx

theorem flat_length : ∀ {rs : List RN} {xs : List ND}, rs.length = xs.length → (flat rs xs).length = xs.length * 3
  | [], [], _ => rfl
  | r :: rs, x :: xs, h => by
    have := flat_length (rs := rs) (xs := xs) (by simpa using h)
    simp only [flat, List.length_append, this, List.length_cons]
    simp [RN.cells]; omega
  | [], _ :: _, h => by simp at h
  | _ :: _, [], h => by simp at h

theorem set_three (a b c : Value) (l : List Value) (i : Nat) (v : Value) : ([a, b, c] ++ l).set (i + 3) v = [a, b, c] ++ l.set i v := by simp

/-- A node's cells, written anew. -/
theorem flat_put : ∀ {rs : List RN} {xs : List ND} {k : Nat} {r : RN} {x : ND} (r' : RN) (x' : ND), rs[k]? = some r → xs[k]? = some x →
    flat (rs.set k r') (xs.set k x') = (((flat rs xs).set (k * 3) (.slice r'.la x'.lines.length r'.lc)).set (k * 3 + 1) (.slice r'.ka x'.kids.length r'.kc)).set (k * 3 + 2) (.int .i64 (x'.count : Int))
  | _ :: _, _ :: _, 0, r, x, r', x', hr, hx => by simp [flat, RN.cells]
  | r0 :: rs, x0 :: xs, k + 1, r, x, r', x', hr, hx => by
    have h := flat_put (rs := rs) (xs := xs) (k := k) r' x' (by simpa using hr) (by simpa using hx)
    rw [show (k + 1) * 3 + 1 = k * 3 + 1 + 3 by omega, show (k + 1) * 3 + 2 = k * 3 + 2 + 3 by omega, show (k + 1) * 3 = k * 3 + 3 by omega]
    simp only [List.set_cons_succ, flat, h, RN.cells, set_three]
  | [], _, _, _, _, _, _, hr, _ => by simp at hr
  | _ :: _, [], _, _, _, _, _, _, hx => by simp at hx

theorem set_same {l : List Value} {i : Nat} {v : Value} (h : l[i]? = some v) : l.set i v = l := by
  obtain ⟨hlt, hv⟩ := List.getElem?_eq_some_iff.1 h
  subst hv
  simp

theorem set_comm' (l : List Value) (i j : Nat) (u v : Value) (h : i ≠ j) : (l.set i u).set j v = (l.set j v).set i u := List.set_comm u v h

theorem flat_put0 {rs : List RN} {xs : List ND} {k : Nat} {r : RN} {x : ND} (hr : rs[k]? = some r) (hx : xs[k]? = some x) (la : Option Addr) (lc : Nat) (lb : Option Nat) (lines : List ByteArray) :
    flat (rs.set k ⟨la, lc, lb, r.ka, r.kc, r.kb⟩) (xs.set k ⟨lines, x.kids, x.count⟩) = (flat rs xs).set (k * 3) (.slice la lines.length lc) := by
  have g := flat_get hr hx
  rw [flat_put _ _ hr hx]
  rw [set_same (i := k * 3 + 1) (by rw [List.getElem?_set_ne (by omega)]; exact g.2.1), set_same (i := k * 3 + 2) (by rw [List.getElem?_set_ne (by omega)]; exact g.2.2)]
theorem flat_put1 {rs : List RN} {xs : List ND} {k : Nat} {r : RN} {x : ND} (hr : rs[k]? = some r) (hx : xs[k]? = some x) (ka : Option Addr) (kc : Nat) (kb : Option Nat) (kids : List Nat) :
    flat (rs.set k ⟨r.la, r.lc, r.lb, ka, kc, kb⟩) (xs.set k ⟨x.lines, kids, x.count⟩) = (flat rs xs).set (k * 3 + 1) (.slice ka kids.length kc) := by
  have g := flat_get hr hx
  rw [flat_put _ _ hr hx]
  rw [set_same (i := k * 3) g.1, set_same (i := k * 3 + 2) (by rw [List.getElem?_set_ne (by omega)]; exact g.2.2)]
theorem flat_put2 {rs : List RN} {xs : List ND} {k : Nat} {r : RN} {x : ND} (hr : rs[k]? = some r) (hx : xs[k]? = some x) (c : Nat) :
    flat (rs.set k r) (xs.set k ⟨x.lines, x.kids, c⟩) = (flat rs xs).set (k * 3 + 2) (.int .i64 (c : Int)) := by
  have g := flat_get hr hx
  rw [flat_put _ _ hr hx]
  rw [set_same (i := k * 3) g.1, set_same (i := k * 3 + 1) g.2.1]

theorem flat_snoc : ∀ {rs : List RN} {xs : List ND}, rs.length = xs.length → ∀ (r : RN) (x : ND), flat (rs ++ [r]) (xs ++ [x]) = flat rs xs ++ r.cells x
  | [], [], _, r, x => by simp [flat]
  | _ :: rs, _ :: xs, h, r, x => by
    have := flat_snoc (rs := rs) (xs := xs) (by simpa using h) r x
    simp only [List.cons_append, flat, this, List.append_assoc]
  | [], _ :: _, h, _, _ => by simp at h
  | _ :: _, [], h, _, _ => by simp at h

structure TR where
  na : Option Addr
  nc : Nat
  nb : Option Nat
  fa : Option Addr
  fc : Nat
  fb : Option Nat
  rs : List RN

/-- A tree's header. -/
def TR.head (R : TR) (S : TS) : Array Value := #[.slice R.na S.nodes.length R.nc, .slice R.fa S.free.length R.fc, .int .i64 (S.root : Int), .int .i64 S.bytes]

structure TM (w : World) (tb : Nat) (S : TS) (R : TR) : Prop where
  hd : w.heap[tb]? = some (.cells (R.head S) 81 (0, 0))
  nodes : Sl w 83 3 R.na S.nodes.length R.nc (flat R.rs S.nodes) R.nb
  free : Sl w 3 1 R.fa S.free.length R.fc (vint S.free) R.fb
  len : R.rs.length = S.nodes.length
  lines : ∀ {k : Nat} {r : RN} {x : ND}, R.rs[k]? = some r → S.nodes[k]? = some x → Sl w 9 1 r.la x.lines.length r.lc (vstr x.lines) r.lb
  kids : ∀ {k : Nat} {r : RN} {x : ND}, R.rs[k]? = some r → S.nodes[k]? = some x → Sl w 3 1 r.ka x.kids.length r.kc (vint x.kids) r.kb
  linj : ∀ {i j : Nat} {r r' : RN} {g : Nat}, R.rs[i]? = some r → R.rs[j]? = some r' → r.lb = some g → r'.lb = some g → i = j
  kinj : ∀ {i j : Nat} {r r' : RN} {g : Nat}, R.rs[i]? = some r → R.rs[j]? = some r' → r.kb = some g → r'.kb = some g → i = j
  kfree : ∀ {i : Nat} {r : RN} {g : Nat}, R.rs[i]? = some r → r.kb = some g → R.fb ≠ some g

def TR.F (R : TR) (tb : Nat) : Blocks := fun b => b = tb ∨ R.nb = some b ∨ R.fb = some b ∨ ∃ (i : Nat) (r : RN), R.rs[i]? = some r ∧ (r.lb = some b ∨ r.kb = some b)

/-- All blocks of F, and those that are new. -/
def Ext (F : Blocks) (w w' : World) : Blocks := fun b => F b ∨ (w.heap.size ≤ b ∧ b < w'.heap.size)
theorem Ext.fresh (F : Blocks) (w w' : World) : Fresh w F (Ext F w w') := fun _ h => h.imp id (·.1)
theorem Ext.refl_iff (F : Blocks) (w : World) (b : Nat) : Ext F w w b ↔ F b := ⟨fun h => by rcases h with h | h; exact h; omega, .inl⟩

structure TMem (w : World) (tb : Nat) (S : TS) (F : Blocks) : Prop where
  ex : ∃ R, TM w tb S R ∧ ∀ b, R.F tb b → F b
  lt : ∀ b, F b → b < w.heap.size

theorem Sl.types {w : World} {e e' sz sz' : Nat} {a a' : Option Addr} {n n' c c' : Nat} {xs xs' : List Value} {b b' : Option Nat} (h : Sl w e sz a n c xs b) (h' : Sl w e' sz' a' n' c' xs' b') (hne : e ≠ e') {g : Nat}
    (hb : b = some g) : b' ≠ some g := by
  intro hb'
  obtain ⟨c1, h1⟩ := h.type hb
  obtain ⟨c2, h2⟩ := h'.type hb'
  rw [h1] at h2
  simp at h2
  exact hne h2.2
theorem Sl.ne_blk {w : World} {e sz : Nat} {a : Option Addr} {n c : Nat} {xs : List Value} {b : Option Nat} (h : Sl w e sz a n c xs b) {g t : Nat} {cs : Array Value} (hg : w.heap[g]? = some (.cells cs t (0, 0))) (hne : e ≠ t) : b ≠ some g := by
  intro hb
  obtain ⟨c1, h1⟩ := h.type hb
  rw [h1] at hg
  simp at hg
  exact hne hg.2

theorem TM.lt {w : World} {tb : Nat} {S : TS} {R : TR} (h : TM w tb S R) {b : Nat} (hb : R.F tb b) : b < w.heap.size := by
  rcases hb with rfl | hb | hb | ⟨i, r, hr, hb | hb⟩
  · exact (Array.getElem?_eq_some_iff.1 h.hd).1
  · exact h.nodes.lt hb
  · exact h.free.lt hb
  · have hi : i < S.nodes.length := by rw [← h.len]; exact (List.getElem?_eq_some_iff.1 hr).1
    exact (h.lines hr (List.getElem?_eq_getElem hi)).lt hb
  · have hi : i < S.nodes.length := by rw [← h.len]; exact (List.getElem?_eq_some_iff.1 hr).1
    exact (h.kids hr (List.getElem?_eq_getElem hi)).lt hb

/-- Nothing of it was changed. -/
theorem TM.keep {w w' : World} {tb : Nat} {S : TS} {R : TR} {G : Blocks} (h : TM w tb S R) (hk : Keep w G w') (hn : ∀ b, R.F tb b → ¬ G b) : TM w' tb S R :=
  ⟨hk.blk h.hd (hn tb (.inl rfl)), h.nodes.keep hk fun g hg => hn g (.inr (.inl hg)), h.free.keep hk fun g hg => hn g (.inr (.inr (.inl hg))), h.len,
    fun hr hx => (h.lines hr hx).keep hk fun g hg => hn g (.inr (.inr (.inr ⟨_, _, hr, .inl hg⟩))),
    fun hr hx => (h.kids hr hx).keep hk fun g hg => hn g (.inr (.inr (.inr ⟨_, _, hr, .inr hg⟩))), h.linj, h.kinj, h.kfree⟩
theorem TMem.keep {w w' : World} {tb : Nat} {S : TS} {F G : Blocks} (h : TMem w tb S F) (hk : Keep w G w') (hn : ∀ b, F b → ¬ G b) : TMem w' tb S F := by
  obtain ⟨⟨R, hm, hF⟩, hlt⟩ := h
  exact ⟨⟨R, hm.keep hk fun b hb => hn b (hF b hb), hF⟩, fun b hb => Nat.lt_of_lt_of_le (hlt b hb) hk.size⟩
theorem TM.drew {w : World} {tb : Nat} {S : TS} {R : TR} (h : TM w tb S R) : TM w.drew tb S R := h.keep (Keep.refl w NoB).drew fun _ _ h => h
theorem TM.drewN {w : World} {tb : Nat} {S : TS} {R : TR} (h : TM w tb S R) (n : Nat) : TM (w.drewN n) tb S R := h.keep ((Keep.refl w NoB).drewN n) fun _ _ h => h
theorem TMem.drew {w : World} {tb : Nat} {S : TS} {F : Blocks} (h : TMem w tb S F) : TMem w.drew tb S F := h.keep (Keep.refl w NoB).drew fun _ _ h => h
theorem TMem.drewN {w : World} {tb : Nat} {S : TS} {F : Blocks} (h : TMem w tb S F) (n : Nat) : TMem (w.drewN n) tb S F := h.keep ((Keep.refl w NoB).drewN n) fun _ _ h => h
theorem TMem.mono {w : World} {tb : Nat} {S : TS} {F G : Blocks} (h : TMem w tb S F) (hF : ∀ b, F b → G b) (hlt : ∀ b, G b → b < w.heap.size) : TMem w tb S G := by
  obtain ⟨⟨R, hm, h1⟩, _⟩ := h
  exact ⟨⟨R, hm, fun b hb => hF b (h1 b hb)⟩, hlt⟩

/-- What a call that changes a tree leaves. -/
structure TPost (w : World) (F : Blocks) (w' : World) (tb : Nat) (S' : TS) : Prop where
  mem : TMem w' tb S' (Ext F w w')
  keep : Keep w F w'

theorem TPost.of {w w' : World} {F : Blocks} {tb : Nat} {S S' : TS} {R' : TR} (h : TMem w tb S F) (hm : TM w' tb S' R') (hk : Keep w F w') (hf : ∀ b, R'.F tb b → F b ∨ w.heap.size ≤ b) : TPost w F w' tb S' := by
  refine ⟨⟨⟨R', hm, fun b hb => ?_⟩, fun b hb => ?_⟩, hk⟩
  · rcases hf b hb with h1 | h1
    · exact .inl h1
    · exact .inr ⟨h1, hm.lt hb⟩
  · rcases hb with hb | hb
    · exact Nat.lt_of_lt_of_le (h.lt b hb) hk.size
    · exact hb.2
theorem TPost.trans {w w1 w2 : World} {F : Blocks} {tb : Nat} {S1 S2 : TS} (h : TPost w F w1 tb S1) (k : TPost w1 (Ext F w w1) w2 tb S2) : TPost w F w2 tb S2 := by
  have hs := h.keep.size
  have hs2 := k.keep.size
  refine ⟨k.mem.mono (fun b hb => ?_) (fun b hb => ?_), h.keep.trans k.keep (Ext.fresh F w w1)⟩
  · rcases hb with (hb | hb) | hb
    · exact .inl hb
    · exact .inr ⟨hb.1, by omega⟩
    · exact .inr ⟨by omega, hb.2⟩
  · rcases hb with hb | hb
    · exact k.mem.lt b (.inl (.inl hb))
    · exact hb.2
theorem TPost.refl {w : World} {F : Blocks} {tb : Nat} {S : TS} (h : TMem w tb S F) : TPost w F w tb S :=
  ⟨h.mono (fun _ hb => .inl hb) (fun b hb => h.lt b ((Ext.refl_iff F w b).1 hb)), Keep.refl w F⟩
/-- .. behind something that changed nothing of it. -/
theorem TPost.after {w w1 w2 : World} {F : Blocks} {tb : Nat} {S2 : TS} (hk : Keep w NoB w1) (k : TPost w1 F w2 tb S2) (hF : ∀ b, F b → b < w.heap.size) : TPost w F w2 tb S2 := by
  have hs := hk.size
  have hs2 := k.keep.size
  refine ⟨k.mem.mono (fun b hb => ?_) (fun b hb => ?_), (hk.mono (G := F) (fun _ h => h.elim)).trans k.keep (Fresh.refl w F)⟩
  · rcases hb with hb | hb
    · exact .inl hb
    · exact .inr ⟨by omega, hb.2⟩
  · rcases hb with hb | hb
    · have := hF b hb; omega
    · exact hb.2

/-- A node's cells. -/
theorem TM.node {w : World} {tb : Nat} {S : TS} {R : TR} (h : TM w tb S R) {k : Nat} {x : ND} (hx : S.nodes[k]? = some x) :
    ∃ nb r, R.nb = some nb ∧ R.na = some ⟨nb, 0, none⟩ ∧ R.rs[k]? = some r ∧ k < S.nodes.length ∧ S.nodes.length ≤ R.nc ∧ R.nc ≤ 9223372036854775807 ∧
      w.cell? ⟨nb, k * 3, none⟩ = some (.slice r.la x.lines.length r.lc) ∧ w.cell? ⟨nb, k * 3 + 1, none⟩ = some (.slice r.ka x.kids.length r.kc) ∧ w.cell? ⟨nb, k * 3 + 2, none⟩ = some (.int .i64 (x.count : Int)) := by
  have hk := (List.getElem?_eq_some_iff.1 hx).1
  obtain ⟨nb, h1, h2⟩ := h.nodes.nonnil (by omega)
  have hkr : k < R.rs.length := by rw [h.len]; exact hk
  have hr := List.getElem?_eq_getElem hkr
  have g := flat_get hr hx
  exact ⟨nb, _, h1, h2, hr, hk, h.nodes.le, h.nodes.max, h.nodes.cell h1 g.1, h.nodes.cell h1 g.2.1, h.nodes.cell h1 g.2.2⟩
theorem TM.cell0 {w : World} {tb : Nat} {S : TS} {R : TR} (h : TM w tb S R) : w.cell? ⟨tb, 0, none⟩ = some (.slice R.na S.nodes.length R.nc) := by rw [cell_blk h.hd]; rfl
theorem TM.cell1 {w : World} {tb : Nat} {S : TS} {R : TR} (h : TM w tb S R) : w.cell? ⟨tb, 1, none⟩ = some (.slice R.fa S.free.length R.fc) := by rw [cell_blk h.hd]; rfl
theorem TM.cell2 {w : World} {tb : Nat} {S : TS} {R : TR} (h : TM w tb S R) : w.cell? ⟨tb, 2, none⟩ = some (.int .i64 (S.root : Int)) := by rw [cell_blk h.hd]; rfl
theorem TM.cell3 {w : World} {tb : Nat} {S : TS} {R : TR} (h : TM w tb S R) : w.cell? ⟨tb, 3, none⟩ = some (.int .i64 S.bytes) := by rw [cell_blk h.hd]; rfl
theorem TM.frozen {w : World} {tb : Nat} {S : TS} {R : TR} (h : TM w tb S R) (j : Nat) : w.frozen? ⟨tb, j, none⟩ = false := free_blk h.hd j

/-- A node is another one. -/
theorem TM.replace {w w' : World} {tb : Nat} {S : TS} {R : TR} (h : TM w tb S R) {k : Nat} {r : RN} {x : ND} (hr : R.rs[k]? = some r) (hx : S.nodes[k]? = some x) (r' : RN) (x' : ND)
    (hn : Sl w' 83 3 R.na S.nodes.length R.nc (flat (R.rs.set k r') (S.nodes.set k x')) R.nb)
    (hl : Sl w' 9 1 r'.la x'.lines.length r'.lc (vstr x'.lines) r'.lb) (hk : Sl w' 3 1 r'.ka x'.kids.length r'.kc (vint x'.kids) r'.kb)
    (hlf : ∀ g, r'.lb = some g → r.lb = some g ∨ ¬ R.F tb g) (hkf : ∀ g, r'.kb = some g → r.kb = some g ∨ ¬ R.F tb g)
    (hkeep : Keep w (fun b => R.nb = some b ∨ r.lb = some b ∨ r.kb = some b) w') : TM w' tb (S.setNode k x') { R with rs := R.rs.set k r' } := by
  have hFl : ∀ {j : Nat} {q : RN} {g : Nat}, R.rs[j]? = some q → q.lb = some g → R.F tb g := fun hj hg => .inr (.inr (.inr ⟨_, _, hj, .inl hg⟩))
  have hFk : ∀ {j : Nat} {q : RN} {g : Nat}, R.rs[j]? = some q → q.kb = some g → R.F tb g := fun hj hg => .inr (.inr (.inr ⟨_, _, hj, .inr hg⟩))
  have hlt : k < R.rs.length := (List.getElem?_eq_some_iff.1 hr).1
  have hget : ∀ {j q}, (R.rs.set k r')[j]? = some q → (j = k ∧ q = r') ∨ (j ≠ k ∧ R.rs[j]? = some q) := by
    intro j q hj
    by_cases e : j = k
    · subst e; rw [List.getElem?_set_self hlt] at hj; exact .inl ⟨rfl, (Option.some.inj hj).symm⟩
    · rw [List.getElem?_set_ne (Ne.symm e)] at hj; exact .inr ⟨e, hj⟩
  have hgetx : ∀ {j q}, (S.nodes.set k x')[j]? = some q → (j = k ∧ q = x') ∨ (j ≠ k ∧ S.nodes[j]? = some q) := by
    intro j q hj
    by_cases e : j = k
    · subst e; rw [List.getElem?_set_self (by rw [← h.len]; exact hlt)] at hj; exact .inl ⟨rfl, (Option.some.inj hj).symm⟩
    · rw [List.getElem?_set_ne (Ne.symm e)] at hj; exact .inr ⟨e, hj⟩
  have hxl : ∀ {j q}, R.rs[j]? = some q → ∃ y, S.nodes[j]? = some y := fun hj => ⟨_, List.getElem?_eq_getElem (by rw [← h.len]; exact (List.getElem?_eq_some_iff.1 hj).1)⟩
  have hsl := h.lines hr hx
  have hsk := h.kids hr hx
  have tnode : (83 : Nat) ≠ 81 := by decide
  have tstr : (9 : Nat) ≠ 81 := by decide
  have tint : (3 : Nat) ≠ 81 := by decide
  have tsi : (9 : Nat) ≠ 3 := by decide
  have tsn : (9 : Nat) ≠ 83 := by decide
  have tin : (3 : Nat) ≠ 83 := by decide
  refine ⟨?_, ?_, ?_, by simp [h.len, TS.setNode], ?_, ?_, ?_, ?_, ?_⟩
  · have : w'.heap[tb]? = some (.cells (R.head S) 81 (0, 0)) := hkeep.blk h.hd (by
      rintro (e | e | e)
      · exact h.nodes.ne_blk h.hd tnode e
      · exact hsl.ne_blk h.hd tstr e
      · exact hsk.ne_blk h.hd tint e)
    simpa [TR.head, TS.setNode] using this
  · simpa [TS.setNode] using hn
  · refine (h.free.keep hkeep ?_)
    intro g hg hb
    rcases hb with e | e | e
    · exact h.free.types h.nodes tin hg e
    · exact hsl.types h.free tsi e hg
    · exact h.kfree hr e hg
  · intro j q y hj hy
    rcases hget hj with ⟨rfl, rfl⟩ | ⟨e, hj⟩
    · rcases hgetx hy with ⟨_, rfl⟩ | ⟨e, _⟩
      · exact hl
      · exact absurd rfl e
    · rcases hgetx hy with ⟨e', _⟩ | ⟨_, hy⟩
      · exact absurd e' e
      · refine (h.lines hj hy).keep hkeep ?_
        intro g hg hb
        rcases hb with e' | e' | e'
        · exact (h.lines hj hy).types h.nodes tsn hg e'
        · exact e (h.linj hj hr hg e')
        · exact (h.lines hj hy).types hsk tsi hg e'
  · intro j q y hj hy
    rcases hget hj with ⟨rfl, rfl⟩ | ⟨e, hj⟩
    · rcases hgetx hy with ⟨_, rfl⟩ | ⟨e, _⟩
      · exact hk
      · exact absurd rfl e
    · rcases hgetx hy with ⟨e', _⟩ | ⟨_, hy⟩
      · exact absurd e' e
      · refine (h.kids hj hy).keep hkeep ?_
        intro g hg hb
        rcases hb with e' | e' | e'
        · exact (h.kids hj hy).types h.nodes tin hg e'
        · exact hsl.types (h.kids hj hy) tsi e' hg
        · exact e (h.kinj hj hr hg e')
  · intro i j q q' g hi hj hg hg'
    rcases hget hi with ⟨rfl, rfl⟩ | ⟨e, hi'⟩ <;> rcases hget hj with ⟨rfl, rfl⟩ | ⟨e', hj'⟩
    · rfl
    · skip
      rcases hlf g hg with h1 | h1
      · exact h.linj hr hj' h1 hg'
      · exact absurd (hFl hj' hg') h1
    · skip
      rcases hlf g hg' with h1 | h1
      · exact h.linj hi' hr hg h1
      · exact absurd (hFl hi' hg) h1
    · exact h.linj hi' hj' hg hg'
  · intro i j q q' g hi hj hg hg'
    rcases hget hi with ⟨rfl, rfl⟩ | ⟨e, hi'⟩ <;> rcases hget hj with ⟨rfl, rfl⟩ | ⟨e', hj'⟩
    · rfl
    · skip
      rcases hkf g hg with h1 | h1
      · exact h.kinj hr hj' h1 hg'
      · exact absurd (hFk hj' hg') h1
    · skip
      rcases hkf g hg' with h1 | h1
      · exact h.kinj hi' hr hg h1
      · exact absurd (hFk hi' hg) h1
    · exact h.kinj hi' hj' hg hg'
  · intro i q g hi hg hfb
    rcases hget hi with ⟨rfl, rfl⟩ | ⟨e, hi⟩
    · rcases hkf g hg with h1 | h1
      · exact h.kfree hr h1 hfb
      · exact absurd (.inr (.inr (.inl hfb))) h1
    · exact h.kfree hi hg hfb

theorem TR.set_same {R : TR} {k : Nat} {r : RN} (hr : R.rs[k]? = some r) : { R with rs := R.rs.set k r } = R := by
  obtain ⟨hlt, hv⟩ := List.getElem?_eq_some_iff.1 hr
  subst hv
  simp

/-- A node's number of lines is written. -/
theorem TM.setCount {w : World} {tb : Nat} {S : TS} {R : TR} (h : TM w tb S R) {k nb : Nat} {x : ND} (hx : S.nodes[k]? = some x) (hnb : R.nb = some nb) (c : Nat) :
    TM (w.setCell ⟨nb, k * 3 + 2, none⟩ (.int .i64 (c : Int))) tb (S.setNode k ⟨x.lines, x.kids, c⟩) R ∧ Keep w (Opt R.nb) (w.setCell ⟨nb, k * 3 + 2, none⟩ (.int .i64 (c : Int))) := by
  obtain ⟨nb', r, h1, _, hr, hk, _⟩ := h.node hx
  have hkp : Keep w (Opt R.nb) (w.setCell ⟨nb, k * 3 + 2, none⟩ (.int .i64 (c : Int))) := (Keep.refl w _).setCell (.inl hnb) _
  have hsl := h.lines hr hx
  have hsk := h.kids hr hx
  have := h.replace hr hx r ⟨x.lines, x.kids, c⟩ (by rw [flat_put2 hr hx]; exact h.nodes.put hnb _ _)
    (hsl.keep hkp fun g hg e => hsl.types h.nodes (by decide) hg e) (hsk.keep hkp fun g hg e => hsk.types h.nodes (by decide) hg e)
    (fun g hg => .inl hg) (fun g hg => .inl hg) (hkp.mono fun b hb => .inl hb)
  rw [TR.set_same hr] at this
  exact ⟨this, hkp⟩

/-- The list of free nodes is another one. -/
theorem TM.setFree {w w1 : World} {tb : Nat} {S : TS} {R : TR} (h : TM w tb S R) (fa : Option Addr) (fc : Nat) (fb : Option Nat) (free : List Nat) (hk : Keep w (Opt R.fb) w1) (hs : Sl w1 3 1 fa free.length fc (vint free) fb)
    (hf : ∀ g, fb = some g → R.fb = some g ∨ w.heap.size ≤ g) :
    TM (w1.setCell ⟨tb, 1, none⟩ (.slice fa free.length fc)) tb { S with free := free } { R with fa := fa, fc := fc, fb := fb } ∧
      Keep w (fun b => R.fb = some b ∨ b = tb) (w1.setCell ⟨tb, 1, none⟩ (.slice fa free.length fc)) := by
  have tint : (3 : Nat) ≠ 81 := by decide
  have htb : R.fb ≠ some tb := h.free.ne_blk h.hd tint
  have h1 : TM w1 tb S { R with fa := fa, fc := fc, fb := fb } → True := fun _ => trivial
  have hd1 : w1.heap[tb]? = some (.cells (R.head S) 81 (0, 0)) := hk.blk h.hd htb
  have hkeep : Keep w (fun b => R.fb = some b ∨ b = tb) (w1.setCell ⟨tb, 1, none⟩ (.slice fa free.length fc)) := (hk.mono fun b hb => .inl hb).setCell (a := ⟨tb, 1, none⟩) (.inl (.inr rfl)) _
  have hsk : Sl (w1.setCell ⟨tb, 1, none⟩ (.slice fa free.length fc)) 3 1 fa free.length fc (vint free) fb := hs.move fun g hg => by
    refine Below.heap_setCell w1 _ _ g (fun e => ?_)
    simp at e
    subst e
    exact hs.ne_blk hd1 tint hg
  refine ⟨⟨?_, ?_, hsk, h.len, ?_, ?_, h.linj, h.kinj, ?_⟩, hkeep⟩
  · have := heap_setCell_same hd1 1 (.slice fa free.length fc)
    simpa [TR.head] using this
  · exact h.nodes.keep hkeep fun g hg e => by
      rcases e with e | e
      · exact h.nodes.types h.free (by decide) hg e
      · exact h.nodes.ne_blk h.hd (by decide) (e ▸ hg)
  · intro k r x hr hx
    exact (h.lines hr hx).keep hkeep fun g hg e => by
      rcases e with e | e
      · exact (h.lines hr hx).types h.free (by decide) hg e
      · exact (h.lines hr hx).ne_blk h.hd (by decide) (e ▸ hg)
  · intro k r x hr hx
    exact (h.kids hr hx).keep hkeep fun g hg e => by
      rcases e with e | e
      · exact h.kfree hr hg e
      · exact (h.kids hr hx).ne_blk h.hd tint (e ▸ hg)
  · intro i r g hi hg hfb
    rcases hf g hfb with e | e
    · exact h.kfree hi hg e
    · have hi' : i < S.nodes.length := by rw [← h.len]; exact (List.getElem?_eq_some_iff.1 hi).1
      have := (h.kids hi (List.getElem?_eq_getElem hi')).lt hg
      omega

/-- One node more. -/
theorem TM.push {w w1 : World} {tb : Nat} {S : TS} {R : TR} (h : TM w tb S R) (na : Option Addr) (nc : Nat) (nb : Option Nat) (r : RN) (x : ND) (hk : Keep w (Opt R.nb) w1)
    (hs : Sl w1 83 3 na (S.nodes.length + 1) nc (flat R.rs S.nodes ++ r.cells x) nb) (hl : Sl w 9 1 r.la x.lines.length r.lc (vstr x.lines) r.lb) (hkk : Sl w 3 1 r.ka x.kids.length r.kc (vint x.kids) r.kb)
    (hlf : ∀ g, r.lb = some g → ¬ R.F tb g) (hkf : ∀ g, r.kb = some g → ¬ R.F tb g) :
    TM (w1.setCell ⟨tb, 0, none⟩ (.slice na (S.nodes.length + 1) nc)) tb { S with nodes := S.nodes ++ [x] } { R with na := na, nc := nc, nb := nb, rs := R.rs ++ [r] } ∧
      Keep w (fun b => R.nb = some b ∨ b = tb) (w1.setCell ⟨tb, 0, none⟩ (.slice na (S.nodes.length + 1) nc)) := by
  have hFl : ∀ {j : Nat} {q : RN} {g : Nat}, R.rs[j]? = some q → q.lb = some g → R.F tb g := fun hj hg => .inr (.inr (.inr ⟨_, _, hj, .inl hg⟩))
  have hFk : ∀ {j : Nat} {q : RN} {g : Nat}, R.rs[j]? = some q → q.kb = some g → R.F tb g := fun hj hg => .inr (.inr (.inr ⟨_, _, hj, .inr hg⟩))
  have tn : (83 : Nat) ≠ 81 := by decide
  have hd1 : w1.heap[tb]? = some (.cells (R.head S) 81 (0, 0)) := hk.blk h.hd (h.nodes.ne_blk h.hd tn)
  have hkeep : Keep w (fun b => R.nb = some b ∨ b = tb) (w1.setCell ⟨tb, 0, none⟩ (.slice na (S.nodes.length + 1) nc)) := (hk.mono fun b hb => .inl hb).setCell (a := ⟨tb, 0, none⟩) (.inl (.inr rfl)) _
  have kp : ∀ {e sz : Nat} {a : Option Addr} {n c : Nat} {xs : List Value} {b : Option Nat}, Sl w e sz a n c xs b → e ≠ 83 → e ≠ 81 → Sl (w1.setCell ⟨tb, 0, none⟩ (.slice na (S.nodes.length + 1) nc)) e sz a n c xs b := fun hh h1 h2 =>
    hh.keep hkeep fun g hg e => by
      rcases e with e | e
      · exact hh.types h.nodes h1 hg e
      · exact hh.ne_blk h.hd h2 (e ▸ hg)
  have hget : ∀ {j : Nat} {q : RN}, (R.rs ++ [r])[j]? = some q → (j < S.nodes.length ∧ R.rs[j]? = some q) ∨ (j = S.nodes.length ∧ q = r) := by
    intro j q hj
    rw [← h.len]
    rcases Nat.lt_or_ge j R.rs.length with h1 | h1
    · rw [List.getElem?_append_left h1] at hj; exact .inl ⟨h1, hj⟩
    · rw [List.getElem?_append_right h1] at hj
      have : j - R.rs.length = 0 := by
        have := (List.getElem?_eq_some_iff.1 hj).1; simp at this; omega
      rw [this] at hj
      exact .inr ⟨by omega, by simpa using hj.symm⟩
  have hgetx : ∀ {j : Nat} {q : ND}, (S.nodes ++ [x])[j]? = some q → (j < S.nodes.length ∧ S.nodes[j]? = some q) ∨ (j = S.nodes.length ∧ q = x) := by
    intro j q hj
    rcases Nat.lt_or_ge j S.nodes.length with h1 | h1
    · rw [List.getElem?_append_left h1] at hj; exact .inl ⟨h1, hj⟩
    · rw [List.getElem?_append_right h1] at hj
      have : j - S.nodes.length = 0 := by
        have := (List.getElem?_eq_some_iff.1 hj).1; simp at this; omega
      rw [this] at hj
      exact .inr ⟨by omega, by simpa using hj.symm⟩
  refine ⟨⟨?_, ?_, kp h.free (by decide) (by decide), by simp [h.len], ?_, ?_, ?_, ?_, ?_⟩, hkeep⟩
  · have := heap_setCell_same hd1 0 (.slice na (S.nodes.length + 1) nc)
    simpa [TR.head] using this
  · simp only [flat_snoc h.len, List.length_append, List.length_cons, List.length_nil]
    refine hs.move fun g hg => Below.heap_setCell w1 _ _ g (fun e => ?_)
    simp at e
    subst e
    exact hs.ne_blk hd1 tn hg
  · intro k q y hr hx
    rcases hget hr with ⟨h1, hr⟩ | ⟨h1, rfl⟩ <;> rcases hgetx hx with ⟨h2, hx⟩ | ⟨h2, rfl⟩
    · exact kp (h.lines hr hx) (by decide) (by decide)
    · omega
    · omega
    · exact kp hl (by decide) (by decide)
  · intro k q y hr hx
    rcases hget hr with ⟨h1, hr⟩ | ⟨h1, rfl⟩ <;> rcases hgetx hx with ⟨h2, hx⟩ | ⟨h2, rfl⟩
    · exact kp (h.kids hr hx) (by decide) (by decide)
    · omega
    · omega
    · exact kp hkk (by decide) (by decide)
  · intro i j q q' g hi hj hg hg'
    rcases hget hi with ⟨_, hi'⟩ | ⟨h1, rfl⟩ <;> rcases hget hj with ⟨_, hj'⟩ | ⟨h2, rfl⟩
    · exact h.linj hi' hj' hg hg'
    · exact absurd (hFl hi' hg) (hlf g hg')
    · exact absurd (hFl hj' hg') (hlf g hg)
    · omega
  · intro i j q q' g hi hj hg hg'
    rcases hget hi with ⟨_, hi'⟩ | ⟨h1, rfl⟩ <;> rcases hget hj with ⟨_, hj'⟩ | ⟨h2, rfl⟩
    · exact h.kinj hi' hj' hg hg'
    · exact absurd (hFk hi' hg) (hkf g hg')
    · exact absurd (hFk hj' hg') (hkf g hg)
    · omega
  · intro i q g hi hg hfb
    rcases hget hi with ⟨_, hi'⟩ | ⟨h1, rfl⟩
    · exact h.kfree hi' hg hfb
    · exact hkf g hg (.inr (.inr (.inl hfb)))

/-- The root is another one; so many bytes. -/
theorem TM.setRoot {w : World} {tb : Nat} {S : TS} {R : TR} (h : TM w tb S R) (r : Nat) :
    TM (w.setCell ⟨tb, 2, none⟩ (.int .i64 (r : Int))) tb { S with root := r } R ∧ Keep w (One tb) (w.setCell ⟨tb, 2, none⟩ (.int .i64 (r : Int))) := by
  have hkeep : Keep w (One tb) (w.setCell ⟨tb, 2, none⟩ (.int .i64 (r : Int))) := (Keep.refl w (One tb)).setCell (a := ⟨tb, 2, none⟩) (.inl rfl) _
  refine ⟨⟨?_, h.nodes.keep hkeep fun g hg e => h.nodes.ne_blk h.hd (by decide) (e ▸ hg), h.free.keep hkeep fun g hg e => h.free.ne_blk h.hd (by decide) (e ▸ hg), h.len,
    fun hr hx => (h.lines hr hx).keep hkeep fun g hg e => (h.lines hr hx).ne_blk h.hd (by decide) (e ▸ hg), fun hr hx => (h.kids hr hx).keep hkeep fun g hg e => (h.kids hr hx).ne_blk h.hd (by decide) (e ▸ hg), h.linj, h.kinj, h.kfree⟩, hkeep⟩
  have := heap_setCell_same h.hd 2 (.int .i64 (r : Int))
  simpa [TR.head] using this
theorem TM.setBytes {w : World} {tb : Nat} {S : TS} {R : TR} (h : TM w tb S R) (r : Int) :
    TM (w.setCell ⟨tb, 3, none⟩ (.int .i64 r)) tb { S with bytes := r } R ∧ Keep w (One tb) (w.setCell ⟨tb, 3, none⟩ (.int .i64 r)) := by
  have hkeep : Keep w (One tb) (w.setCell ⟨tb, 3, none⟩ (.int .i64 r)) := (Keep.refl w (One tb)).setCell (a := ⟨tb, 3, none⟩) (.inl rfl) _
  refine ⟨⟨?_, h.nodes.keep hkeep fun g hg e => h.nodes.ne_blk h.hd (by decide) (e ▸ hg), h.free.keep hkeep fun g hg e => h.free.ne_blk h.hd (by decide) (e ▸ hg), h.len,
    fun hr hx => (h.lines hr hx).keep hkeep fun g hg e => (h.lines hr hx).ne_blk h.hd (by decide) (e ▸ hg), fun hr hx => (h.kids hr hx).keep hkeep fun g hg e => (h.kids hr hx).ne_blk h.hd (by decide) (e ▸ hg), h.linj, h.kinj, h.kfree⟩, hkeep⟩
  have := heap_setCell_same h.hd 3 (.int .i64 r)
  simpa [TR.head] using this

theorem TS.set_set (S : TS) (k : Nat) (x y : ND) : (S.setNode k x).setNode k y = S.setNode k y := by simp [TS.setNode]
theorem TS.set_get {S : TS} {k : Nat} {x : ND} (y : ND) (h : S.nodes[k]? = some x) : (S.setNode k y).nodes[k]? = some y := by
  simp [TS.setNode, (List.getElem?_eq_some_iff.1 h).1]
theorem TS.set_far {S : TS} {k j : Nat} (y : ND) (h : j ≠ k) : (S.setNode k y).nodes[j]? = S.nodes[j]? := by
  simp only [TS.setNode]; rw [List.getElem?_set_ne (by omega)]

end Go.Em

/- The walks of the laws' own helpers: are two lists of lines alike, is a text too heavy. -/
namespace Go.Proofs
open Go.RowKit Go.Em

theorem bytes_ne {x y : ByteArray} (h : x ≠ y) : (x.toList == y.toList) = false := beq_eq_false_iff_ne.2 fun e => h (by
  rw [ByteArray.toList_eq, ByteArray.toList_eq] at e
  exact ByteArray.ext (Array.toList_inj.1 e))
theorem take_next {l : List ByteArray} {k : Nat} {x : ByteArray} (h : l[k]? = some x) : l.take (k + 1) = l.take k ++ [x] := by rw [List.take_add_one, h]; rfl

set_option maxRecDepth 100000 in
set_option maxHeartbeats 1000000 in
theorem same_calls {w : World} {a a2 : Option Addr} {n c m c2 : Nat} {xs ys : List ByteArray} (h1 : Rd w 1 a n (vstr xs)) (h2 : Rd w 1 a2 m (vstr ys)) (hn : n < 9223372036854775807) :
    Calls Tryz.prog 11 #[.slice a n c, .slice a2 m c2] w fun e w' => e = .returned (.bool (decide (xs = ys))) ∧ ∃ q, w' = w.drewN q := by
  have hxl : xs.length = n := by have := h1.len; rw [vstr_length, Nat.mul_one] at this; exact this
  have hyl : ys.length = m := by have := h2.len; rw [vstr_length, Nat.mul_one] at this; exact this
  have HX : Kp _ := ⟨hxl⟩
  have HY : Kp _ := ⟨hyl⟩
  have H1 : Kp _ := ⟨h1⟩
  have H2 : Kp _ := ⟨h2⟩
  clear hxl hyl h1 h2
  by_cases hnm : n = m
  case neg =>
    have hne : xs ≠ ys := fun e => hnm (by rw [← HX.out, ← HY.out, e])
    have hnm' : ¬ ((n : Int) = (m : Int)) := by omega
    go_enter Tryz.func11, Tryz.ntmps11
    go_wp2_with fail
    go_ret
    exact ⟨by simp [hne], 0, rfl⟩
  subst hnm
  go_enter Tryz.func11, Tryz.ntmps11
  go_wp2_with fail
  go_loopw [5] (fun j wr => ∃ k q : Nat, k ≤ n ∧ j = .int .i64 (k : Int) ∧ wr = w.drewN q ∧ Kp (xs.take k = ys.take k)) (fun j _ => n - (intOf j).toNat)
  case atStart => exact ⟨0, 0, Nat.zero_le _, rfl, rfl, ⟨rfl⟩⟩
  case round =>
    obtain ⟨k, q, hk, rfl, rfl, HT⟩ := hrel
    by_cases hlt : k < n
    · obtain ⟨x, hx⟩ : ∃ x, xs[k]? = some x := ⟨_, List.getElem?_eq_getElem (by have := HX.out; omega)⟩
      obtain ⟨y, hy⟩ : ∃ y, ys[k]? = some y := ⟨_, List.getElem?_eq_getElem (by have := HY.out; omega)⟩
      obtain ⟨ad, hae, hc1⟩ := H1.out.cells k _ (vstr_get hx)
      obtain ⟨ad2, hae2, hc2⟩ := H2.out.cells k _ (vstr_get hy)
      have HXG : Kp _ := ⟨hx⟩
      have HYG : Kp _ := ⟨hy⟩
      have hki : (k : Int) < (n : Int) := by omega
      rw [hae, hae2]
      clear hx hy hae hae2
      by_cases hxy : x = y
      · have hb : (x.toList == y.toList) = true := by rw [hxy]; simp
        have HXY : Kp _ := ⟨hxy⟩
        clear hxy
        go_wp2_with fail
        go_quiet (fail)
        go_wp2_with fail
        go_roundw
        case rel => exact ⟨k + 1, q + nq, by omega, by go_num, rfl, ⟨by rw [take_next HXG.out, take_next HYG.out, HT.out, HXY.out]⟩⟩
        case measure => simp [intOf]; omega
      · have hb : (x.toList == y.toList) = false := bytes_ne hxy
        have hne : xs ≠ ys := fun e => hxy (by
          have h1 := HXG.out
          rw [e, HYG.out] at h1
          exact (Option.some.inj h1).symm)
        clear hxy
        go_wp2_with fail
        go_quiet (fail)
        go_wp2_with fail
        go_ret
        exact ⟨by simp [hne], q + nq, by first | rfl | simp [World.drewN, Nat.add_assoc]⟩
    · have hke : k = n := by omega
      subst hke
      have he : xs = ys := by
        have h := HT.out
        rw [List.take_of_length_le (by have := HX.out; omega), List.take_of_length_le (by have := HY.out; omega)] at h
        exact h
      clear HT
      go_wp2_with fail
      go_ret
      exact ⟨by simp [he], q, rfl⟩

/-- So much do lines weigh. -/
def weigh (l : List ByteArray) : Nat := (l.map fun s => s.size + 1).sum
theorem weigh_next {l : List ByteArray} {k : Nat} {x : ByteArray} (h : l[k]? = some x) : weigh (l.take (k + 1)) = weigh (l.take k) + (x.size + 1) := by
  unfold weigh
  rw [take_next h]
  simp
theorem weigh_append (l m : List ByteArray) : weigh (l ++ m) = weigh l + weigh m := by simp [weigh]
theorem weigh_take (l : List ByteArray) (k : Nat) : weigh (l.take k) ≤ weigh l := by
  have h := weigh_append (l.take k) (l.drop k)
  rw [List.take_append_drop] at h
  omega

set_option maxRecDepth 100000 in
set_option maxHeartbeats 1000000 in
theorem heavy_calls {w : World} {a a2 : Option Addr} {n c m c2 : Nat} {xs : List ByteArray} (h1 : Rd w 1 a n (vstr xs)) (hn : n < 9223372036854775807) (hw : weigh xs < 9223372036854775807) :
    Calls Tryz.prog 6 #[.slice a n c, .slice a2 m c2] w fun e w' => e = .returned (.bool (decide (300 < n ∨ 6000 < weigh xs ∨ 30 < m))) ∧ w = w' := by
  have hxl : xs.length = n := by have := h1.len; rw [vstr_length, Nat.mul_one] at this; exact this
  have HX : Kp _ := ⟨hxl⟩
  have H1 : Kp _ := ⟨h1⟩
  have HW : Kp _ := ⟨hw⟩
  clear hxl h1 hw
  go_enter Tryz.func6, Tryz.ntmps6
  go_wp2_with fail
  go_loopw [6, 5] (fun j v wr => ∃ k : Nat, k ≤ n ∧ j = .int .i64 (k : Int) ∧ v = .int .i64 ((weigh (xs.take k) : Nat) : Int) ∧ w = wr) (fun j _ _ => n - (intOf j).toNat)
  case atStart => exact ⟨0, Nat.zero_le _, rfl, rfl, rfl⟩
  case round =>
    obtain ⟨k, hk, rfl, rfl, rfl⟩ := hrel
    by_cases hlt : k < n
    · obtain ⟨x, hx⟩ : ∃ x, xs[k]? = some x := ⟨_, List.getElem?_eq_getElem (by have := HX.out; omega)⟩
      obtain ⟨ad, hae, hc1⟩ := H1.out.cells k _ (vstr_get hx)
      have HWN : Kp _ := ⟨weigh_next hx⟩
      have hsum : weigh (xs.take k) + (x.size + 1) < 9223372036854775807 := by
        rw [← weigh_next hx]; exact Nat.lt_of_le_of_lt (weigh_take _ _) HW.out
      rw [hae]
      clear hx hae
      generalize weigh (xs.take k) = t at *
      go_wp2_with fail
      go_roundw
      case rel => exact ⟨k + 1, by omega, by go_num, by rw [HWN.out]; go_num, by first | rfl | trivial⟩
      case measure => simp [intOf]; omega
    · have hke : k = n := by omega
      subst hke
      have ht : xs.take k = xs := List.take_of_length_le (by have := HX.out; omega)
      rw [ht]
      generalize hwt : weigh xs = t
      have HT : Kp _ := ⟨hwt⟩
      clear ht hwt
      go_wp2_with fail
      all_goals
        go_ret
        refine ⟨?_, rfl⟩
        have hwt := HT.out
        try rw [hwt]
        refine congrArg (fun b => Ending.returned (Value.bool b)) (?_ : (_ : Bool) = _)
        rw [Bool.eq_iff_iff]
        simp only [Bool.or_eq_true, decide_eq_true_eq, true_iff]
        omega

end Go.Proofs

/- What all rows of this seat share: the lines that come in, their bulk, what stands behind a law that is true. -/
namespace Go.Proofs
open Go.RowKit Go.Em Go.ChangeShapes Go.WideShapes Go.ChangeAt
open Go.Proofs.YtajpgjbepebcmaaGreatDoor

theorem own : ownKnob Tryz.prog.godebug = none := by kernel_rfl
theorem laidOut : laidOutB Tryz.prog = true := by kernel_rfl
theorem cellsStr : Tryz.prog.cellsOf 9 = 1 := by kernel_rfl

theorem trodAll_keep {H : Type} {enc : TypeId × Value → H} {P : Program} (hl : laidOutB P = true) {W W' : World} (hb : Below W.heap.size W W') :
    ∀ {ts : List TypeId} {vs : List Value} {ds : List (DataW H)} {ps : List MemPlace}, ts.all (fun t => P.readableRec t && decide (t < P.types.size)) = true → DataW.TrodAll enc P W 0 (fun _ => true) true ts vs ds ps → (∀ x ∈ ps, x.block < W.heap.size) →
      DataW.TrodAll enc P W' 0 (fun b => decide (b < W.heap.size)) true ts vs ds ps
  | [], vs, ds, ps, _, h, _ => by
    cases vs <;> cases ds <;> simp_all [DataW.TrodAll]
  | t :: ts, vs, ds, ps, hr, h, hlt => by
    simp only [List.all_cons, Bool.and_eq_true, decide_eq_true_eq] at hr
    obtain ⟨v, vs', d, ds', p, q, rfl, rfl, rfl, h0, h1⟩ := trodAll_cons h
    exact trodAll_cons_mk (Below.trod hl hr.1.1 hr.1.2 h0 hb fun x hx => hlt x (List.mem_append_left _ hx)) (trodAll_keep hl hb (by simpa using hr.2) h1 fun x hx => hlt x (List.mem_append_right _ hx))

/-- A law that is true: what the row asks. -/
theorem law_post {H : Type} {enc : TypeId × Value → H} {f : Func} {s : ChangeSpec} (hv : s.vars = []) (hres : f.resultTypes = #[4]) (hpar : f.params.toList.all (fun t => Tryz.prog.readableRec t && decide (t < Tryz.prog.types.size)) = true)
    {W W' : World} {args : Array Value} {ds gs : List (DataW H)} {before : List MemPlace} (hW : DataW.Whole enc Tryz.prog f.params.toList s.vars false W args.toList ds gs before)
    (hfn : s.fn H (ds ++ gs) = { results := [.lit (.bool true)], args := ds }) (hb : Below W.heap.size W W') : s.post enc Tryz.prog f false true false false W args (.bool true) W' := by
  have hW' := hW
  obtain ⟨p, q, hA, hV, rfl, _, _⟩ := hW
  rw [hv] at hV
  obtain ⟨rfl, rfl⟩ := trodVars_none hV
  simp only [List.append_nil] at hW' hfn
  have hlt : ∀ x ∈ p, x.block < W.heap.size := fun x hx => by simpa using hW'.lt x hx
  refine ⟨ds, [], p, [], p, [], hW', ?_, ?_, ?_, hb.frame _, fun h => by cases h⟩
  · rw [List.append_nil, hfn, hres]; exact trodAll_cons_mk (shut_bool Tryz.underlying4 _) trodAll_mk0
  · rw [List.append_nil, hfn]; exact trodAll_keep laidOut hb hpar hA hlt
  · rw [List.append_nil, hfn, hv]; rfl

def flatD : Nat → DataW Unit → List Value
  | 0, _ => []
  | _ + 1, .lit (.int k v) => [.int k v]
  | n + 1, .agg l => l.flatMap (flatD n)
  | _, _ => []
def layD (d : DataW Unit) (o : Obj) : Obj := match o with
  | .cells _ t frozen => .cells (flatD 3 d).toArray t frozen
  | o => o
/-- A world for the witness: the settled one, with the tables that the row lists. -/
noncomputable def laidWorld (os : Os) : World :=
  let w := World.holding Tryz.prog os ⟨#[], #[], []⟩
  { w with heap := ((((w.heap.modify 4 (layD Rows.laid_math_bits_deBruijn32tab)).modify 5 (layD Rows.laid_math_bits_deBruijn64tab)).modify 0 (layD Rows.laid_internal_strconv_uint64pow10)).modify 2 (layD Rows.laid_unicode_utf8_acceptRanges)).modify 1 (layD Rows.laid_unicode_utf8_first) }

set_option maxRecDepth 100000 in
/-- Lines that come in. -/
theorem lines_in {H : Type} {enc : TypeId × Value → H} {W : World} {base : Nat} {v : Value} {d : DataW H} {p : List MemPlace} (hok : Value.okWide Tryz.prog W .any base 22 v) (h : DataW.Trod enc Tryz.prog W 0 (fun _ => true) true 22 v d p) :
    ∃ (a : Option Addr) (n c : Nat) (xs : List ByteArray), v = .slice a n c ∧ Rd W 1 a n (vstr xs) ∧ n ≤ c ∧ c ≤ 9223372036854775807 ∧ n ≤ Rows.uptoBulk d ∧ weigh xs ≤ Rows.uptoBulk d := by
  obtain ⟨a0, len, cap, rfl⟩ := okWide_slice Tryz.underlying22 hok
  obtain ⟨fuel, hf⟩ := h
  rcases open_strings Tryz.underlying22 Tryz.underlying9 cellsStr hf with ⟨hcs, hx⟩ | ⟨a, len', cap', ss, hcs, _, hl, hm, hz, hx, hcell, hws⟩
  · simp [Value.cells] at hcs
    obtain ⟨rfl, rfl, rfl⟩ := hcs
    exact ⟨none, 0, 0, [], rfl, ⟨rfl, fun j u hj => by simp [vstr] at hj, fun u hu => by simp [vstr] at hu⟩, Nat.le_refl _, by omega, Nat.zero_le _, Nat.zero_le _⟩
  · simp [Value.cells] at hcs
    obtain ⟨rfl, rfl, rfl⟩ := hcs
    simp only [Prod.mk.injEq] at hx
    obtain ⟨rfl, rfl⟩ := hx
    simp only [if_true] at hz
    have hxl : (ss.take len).length = len := by rw [List.length_take]; omega
    have hbulk : ∀ l : List ByteArray, Rows.uptoBulkAll (strs (H := H) l) = weigh l := by
      intro l
      induction l with
      | nil => simp [strs, weigh, Rows.uptoBulkAll]
      | cons x l ih =>
        simp only [strs, List.map_cons, Rows.uptoBulkAll, Rows.uptoBulk, weigh, List.sum_cons] at ih ⊢
        rw [ih]
        simp
    have hw : weigh (ss.take len) ≤ Rows.uptoBulk (DataW.slice (strs (H := H) (ss.take len)) (strs (ss.drop len))) := by
      simp only [Rows.uptoBulk]
      rw [hbulk]
      omega
    have hn : len ≤ weigh (ss.take len) := by
      have : ∀ l : List ByteArray, l.length ≤ weigh l := by
        intro l
        induction l with
        | nil => simp
        | cons x l ih => simp [weigh] at ih ⊢; omega
      have := this (ss.take len)
      omega
    refine ⟨some a, len, cap, ss.take len, rfl, ⟨by rw [vstr_length, hxl, Nat.mul_one], fun j u hj => ⟨a, rfl, ?_⟩, fun u hu => ?_⟩, hl, by simpa [maxLen] using hm, by omega, hw⟩
    · unfold vstr at hj
      rw [List.getElem?_map] at hj
      cases hs : (ss.take len)[j]? with
      | none => rw [hs] at hj; cases hj
      | some x =>
        rw [hs] at hj
        cases hj
        have hjl := (List.getElem?_eq_some_iff.1 hs).1
        rw [List.getElem?_take] at hs
        split at hs
        · have := hcell j (by omega)
          rw [this, List.getD_eq_getElem?_getD, hs]
          rfl
        · cases hs
    · obtain ⟨x, _, rfl⟩ := List.mem_map.1 hu
      rfl

end Go.Proofs

/- The walks of package kind: what registers ask of a byte. -/
namespace Go.Proofs
open Go.RowKit Go.Em

/-- Is a byte between two? -/
def rng (lo hi c : Int) : Bool := decide (lo ≤ c) && decide (c ≤ hi)
theorem rng_iff {lo hi c : Int} : rng lo hi c = true ↔ lo ≤ c ∧ c ≤ hi := by simp [rng]

set_option maxRecDepth 100000 in
theorem between_calls (w : World) (c lo hi : Int) :
    Calls Tryz.prog 89 #[.int .u8 c, .int .u8 lo, .int .u8 hi] w fun e w' => e = .returned (.bool (rng lo hi c)) ∧ w = w' := by
  go_enter Tryz.func89, Tryz.ntmps89
  go_wp2_with fail
  all_goals
    go_ret
    refine ⟨?_, rfl⟩
    refine congrArg (fun b => Ending.returned (Value.bool b)) (?_ : (_ : Bool) = _)
    unfold rng
    simp_all
    try omega
theorem great_calls (w : World) (c : Int) :
    Calls Tryz.prog 56 #[.int .u8 c] w fun e w' => e = .returned (.bool (rng 65 90 c)) ∧ w = w' := by
  go_enter Tryz.func56, Tryz.ntmps56
  go_wp2_with ((with_reducible refine (between_calls _ _ _ _).mono ?_)
               rintro e w' ⟨rfl, rfl⟩)
  go_ret
  exact ⟨rfl, rfl⟩
theorem small_calls (w : World) (c : Int) :
    Calls Tryz.prog 121 #[.int .u8 c] w fun e w' => e = .returned (.bool (rng 97 122 c)) ∧ w = w' := by
  go_enter Tryz.func121, Tryz.ntmps121
  go_wp2_with ((with_reducible refine (between_calls _ _ _ _).mono ?_)
               rintro e w' ⟨rfl, rfl⟩)
  go_ret
  exact ⟨rfl, rfl⟩
theorem digit_calls (w : World) (c : Int) :
    Calls Tryz.prog 115 #[.int .u8 c] w fun e w' => e = .returned (.bool (rng 48 57 c)) ∧ w = w' := by
  go_enter Tryz.func115, Tryz.ntmps115
  go_wp2_with ((with_reducible refine (between_calls _ _ _ _).mono ?_)
               rintro e w' ⟨rfl, rfl⟩)
  go_ret
  exact ⟨rfl, rfl⟩
theorem letter_calls (w : World) (c : Int) :
    Calls Tryz.prog 120 #[.int .u8 c] w fun e w' => e = .returned (.bool (rng 97 122 c || rng 65 90 c)) ∧ w = w' := by
  go_enter Tryz.func120, Tryz.ntmps120
  go_wp2_with (first
    | ((with_reducible refine (small_calls _ _).mono ?_)
       rintro e w' ⟨rfl, rfl⟩)
    | ((with_reducible refine (great_calls _ _).mono ?_)
       rintro e w' ⟨rfl, rfl⟩))
  all_goals
    go_ret
    refine ⟨?_, rfl⟩
    refine congrArg (fun b => Ending.returned (Value.bool b)) (?_ : (_ : Bool) = _)
    simp_all
set_option maxRecDepth 100000 in
theorem Small_calls (w : World) (c : Int) (h0 : 0 ≤ c) (h1 : c < 256) :
    Calls Tryz.prog 33 #[.int .u8 c] w fun e w' => e = .returned (.int .u8 (if rng 65 90 c = true then c + 32 else c)) ∧ w = w' := by
  by_cases hc : rng 65 90 c = true
  · have hc1 := (rng_iff.1 hc).1
    have hc2 := (rng_iff.1 hc).2
    rw [if_pos hc]
    go_enter Tryz.func33, Tryz.ntmps33
    go_wp2_with ((with_reducible refine (great_calls _ _).mono ?_)
                 rintro e w' ⟨rfl, rfl⟩)
    go_ret
    exact ⟨rfl, rfl⟩
  · rw [if_neg hc]
    go_enter Tryz.func33, Tryz.ntmps33
    go_wp2_with ((with_reducible refine (great_calls _ _).mono ?_)
                 rintro e w' ⟨rfl, rfl⟩)
    go_ret
    exact ⟨rfl, rfl⟩

set_option maxRecDepth 100000 in
theorem asks_d (w : World) : Calls Tryz.prog 90 #[.int .u8 100] w fun e w' => e = .returned (.func (.func 115) #[] #[]) ∧ w = w' := by
  go_enter Tryz.func90, Tryz.ntmps90
  go_wp2_with ((with_reducible refine (Small_calls _ _ (by omega) (by omega)).mono ?_)
               rintro e w' ⟨rfl, rfl⟩
               simp only [show rng 65 90 100 = false from rfl, Bool.false_eq_true, if_false])
  go_ret
  exact ⟨rfl, rfl⟩
set_option maxRecDepth 100000 in
theorem asks_a (w : World) : Calls Tryz.prog 90 #[.int .u8 97] w fun e w' => e = .returned (.func (.func 120) #[] #[]) ∧ w = w' := by
  go_enter Tryz.func90, Tryz.ntmps90
  go_wp2_with ((with_reducible refine (Small_calls _ _ (by omega) (by omega)).mono ?_)
               rintro e w' ⟨rfl, rfl⟩
               simp only [show rng 65 90 97 = false from rfl, Bool.false_eq_true, if_false])
  go_ret
  exact ⟨rfl, rfl⟩
set_option maxRecDepth 100000 in
theorem Is_d (w : World) (c : Int) : Calls Tryz.prog 57 #[.int .u8 100, .int .u8 c] w fun e w' => e = .returned (.bool (rng 48 57 c)) ∧ w = w' := by
  have hneq : ∀ w : World, (binOp .neq 141 (.func (.func 115) #[] #[]) .nilFunc).run Tryz.prog w = .ok (.bool true) w := fun _ => by kernel_rfl
  go_enter Tryz.func57, Tryz.ntmps57
  go_wp2_with (first
    | ((with_reducible refine (asks_d _).mono ?_)
       rintro e w' ⟨rfl, rfl⟩)
    | ((with_reducible refine (digit_calls _ _).mono ?_)
       rintro e w' ⟨rfl, rfl⟩)
    | ((with_reducible refine (great_calls _ _).mono ?_)
       rintro e w' ⟨rfl, rfl⟩
       simp only [show rng 65 90 100 = false from rfl]))
  all_goals
    go_ret
    refine ⟨?_, rfl⟩
    refine congrArg (fun b => Ending.returned (Value.bool b)) (?_ : (_ : Bool) = _)
    simp_all
set_option maxRecDepth 100000 in
theorem Is_a (w : World) (c : Int) : Calls Tryz.prog 57 #[.int .u8 97, .int .u8 c] w fun e w' => e = .returned (.bool (rng 97 122 c || rng 65 90 c)) ∧ w = w' := by
  have hneq : ∀ w : World, (binOp .neq 141 (.func (.func 120) #[] #[]) .nilFunc).run Tryz.prog w = .ok (.bool true) w := fun _ => by kernel_rfl
  go_enter Tryz.func57, Tryz.ntmps57
  go_wp2_with (first
    | ((with_reducible refine (asks_a _).mono ?_)
       rintro e w' ⟨rfl, rfl⟩)
    | ((with_reducible refine (letter_calls _ _).mono ?_)
       rintro e w' ⟨rfl, rfl⟩)
    | ((with_reducible refine (great_calls _ _).mono ?_)
       rintro e w' ⟨rfl, rfl⟩
       simp only [show rng 65 90 97 = false from rfl]))
  all_goals
    go_ret
    refine ⟨?_, rfl⟩
    refine congrArg (fun b => Ending.returned (Value.bool b)) (?_ : (_ : Bool) = _)
    simp_all

/-- Is there such a register? -/
def knownReg (c : Int) : Bool := decide (c = 34) || decide (c = 95) || rng 48 57 c || rng 97 122 c || rng 65 90 c
set_option maxRecDepth 100000 in
theorem Known_calls (w : World) (c : Int) : Calls Tryz.prog 34 #[.int .u8 c] w fun e w' => e = .returned (.bool (knownReg c)) ∧ w = w' := by
  go_enter Tryz.func34, Tryz.ntmps34
  go_wp2_with (first
    | ((with_reducible refine (Is_d _ _).mono ?_)
       rintro e w' ⟨rfl, rfl⟩)
    | ((with_reducible refine (Is_a _ _).mono ?_)
       rintro e w' ⟨rfl, rfl⟩))
  all_goals
    go_ret
    refine ⟨?_, rfl⟩
    refine congrArg (fun b => Ending.returned (Value.bool b)) (?_ : (_ : Bool) = _)
    unfold knownReg
    simp_all

end Go.Proofs

/- The library's functions on slices, at slices that have a block of their own. -/
namespace Go.Proofs
open Go.RowKit Go.Em

theorem clip_str (w : World) (a : Option Addr) (n c : Nat) (hl : n ≤ c) (_hm : c ≤ 9223372036854775807) :
    Calls Tryz.prog 133 #[.slice a n c] w fun r w' => r = .returned (.slice a n n) ∧ w = w' := by
  go_enter Tryz.func133, Tryz.ntmps133
  go_wp2
  go_ret
  exact ⟨rfl, rfl⟩
theorem clip_int (w : World) (a : Option Addr) (n c : Nat) (hl : n ≤ c) (_hm : c ≤ 9223372036854775807) :
    Calls Tryz.prog 135 #[.slice a n c] w fun r w' => r = .returned (.slice a n n) ∧ w = w' := by
  go_enter Tryz.func135, Tryz.ntmps135
  go_wp2
  go_ret
  exact ⟨rfl, rfl⟩

theorem info_str : (Tryz.prog.info? 9).map (fun i => (i.zero, i.size, i.bytes)) = some (some (.string ByteArray.empty), 1, 16) := by kernel_rfl
theorem info_int : (Tryz.prog.info? 3).map (fun i => (i.zero, i.size, i.bytes)) = some (some (.int .i64 0), 1, 8) := by kernel_rfl

/-- slices.Clone of strings: a new slice. -/
theorem clone_str {w : World} {a : Option Addr} {n c : Nat} {xs : List Value} (h : Rd w 1 a n xs) (hn : n ≤ 1048576) :
    Calls Tryz.prog 58 #[.slice a n c] w fun r w' => ∃ a' c' b', r = .returned (.slice a' n c') ∧ Sl w' 9 1 a' n c' xs b' ∧ Keep w NoB w' ∧ Fresh w NoB (Opt b') := by
  have hnil : ∀ w : World, (binOp .eql 22 (.slice a n c) (.slice none 0 0)).run Tryz.prog w = .ok (.bool a.isNone) w := fun w => run_eql_slice_nil w _ _ a n c Tryz.underlying22
  have HR : Kp _ := ⟨h⟩
  cases a with
  | none =>
    have hx : n = 0 ∧ xs = [] := by
      have hl := h.len
      cases hxs : xs with
      | nil => rw [hxs] at hl; simp at hl; exact ⟨hl.symm, rfl⟩
      | cons u us => obtain ⟨ad, h1, _⟩ := h.cells 0 u (by simp [hxs]); cases h1
    obtain ⟨rfl, rfl⟩ := hx
    clear h hn
    go_enter Tryz.func58, Tryz.ntmps58
    go_wp2
    go_ret
    exact ⟨_, _, _, rfl, Sl.nil _ _ _, Keep.refl _ _, fun b hb => by cases hb⟩
  | some ad =>
    clear h
    have hsl : Sl (w.alloc (.cells #[] 9)) 9 1 (some ⟨w.heap.size, 0, none⟩) 0 0 [] (some w.heap.size) := Sl.made w 9 1 0 0 #[] (Nat.le_refl _) (by omega) (by simp)
    have hkp : Keep w NoB (w.alloc (.cells #[] 9)) := (Keep.refl w NoB).alloc _
    have hrd : Rd (w.alloc (.cells #[] 9)) 1 (some ad) n xs := HR.out.keep hkp fun _ _ h => h
    have HS : Kp _ := ⟨hsl⟩
    have HD : Kp _ := ⟨hrd⟩
    have HK : Kp _ := ⟨hkp⟩
    clear hsl hrd hkp
    go_enter Tryz.func58, Tryz.ntmps58
    go_wp2_with (at_builtin; refine wpList_append_rd rfl _ _ 22 rfl 9 _ 1 16 Tryz.underlying22 info_str rfl (by decide) HS.out rfl HD.out rfl (by omega) (by omega) ?_; intro a' c'' b' w' h2 h3 h4)
    go_ret
    simp only [Nat.zero_add, List.nil_append] at h2 ⊢
    refine ⟨_, _, _, rfl, h2, ?_, ?_⟩
    · refine ⟨h3.os.trans HK.out.os, h3.tape.trans HK.out.tape, h3.output.trans HK.out.output, Nat.le_trans HK.out.size h3.size, fun b hb _ => ?_⟩
      rw [h3.keep b (Nat.lt_of_lt_of_le hb HK.out.size) (fun e => by cases e; omega)]
      exact HK.out.keep b hb (fun h => h)
    · intro b hb
      rcases h4 b hb with e | e
      · cases e; exact .inr (Nat.le_refl _)
      · exact .inr (Nat.le_trans HK.out.size e)

/-- slices.Clone of numbers: a new slice. -/
theorem clone_int {w : World} {a : Option Addr} {n c : Nat} {xs : List Value} (h : Rd w 1 a n xs) (hn : n ≤ 1048576) :
    Calls Tryz.prog 134 #[.slice a n c] w fun r w' => ∃ a' c' b', r = .returned (.slice a' n c') ∧ Sl w' 3 1 a' n c' xs b' ∧ Keep w NoB w' ∧ Fresh w NoB (Opt b') := by
  have hnil : ∀ w : World, (binOp .eql 79 (.slice a n c) (.slice none 0 0)).run Tryz.prog w = .ok (.bool a.isNone) w := fun w => run_eql_slice_nil w _ _ a n c Tryz.underlying79
  have HR : Kp _ := ⟨h⟩
  cases a with
  | none =>
    have hx : n = 0 ∧ xs = [] := by
      have hl := h.len
      cases hxs : xs with
      | nil => rw [hxs] at hl; simp at hl; exact ⟨hl.symm, rfl⟩
      | cons u us => obtain ⟨ad, h1, _⟩ := h.cells 0 u (by simp [hxs]); cases h1
    obtain ⟨rfl, rfl⟩ := hx
    clear h hn
    go_enter Tryz.func134, Tryz.ntmps134
    go_wp2
    go_ret
    exact ⟨_, _, _, rfl, Sl.nil _ _ _, Keep.refl _ _, fun b hb => by cases hb⟩
  | some ad =>
    clear h
    have hsl : Sl (w.alloc (.cells #[] 3)) 3 1 (some ⟨w.heap.size, 0, none⟩) 0 0 [] (some w.heap.size) := Sl.made w 3 1 0 0 #[] (Nat.le_refl _) (by omega) (by simp)
    have hkp : Keep w NoB (w.alloc (.cells #[] 3)) := (Keep.refl w NoB).alloc _
    have hrd : Rd (w.alloc (.cells #[] 3)) 1 (some ad) n xs := HR.out.keep hkp fun _ _ h => h
    have HS : Kp _ := ⟨hsl⟩
    have HD : Kp _ := ⟨hrd⟩
    have HK : Kp _ := ⟨hkp⟩
    clear hsl hrd hkp
    go_enter Tryz.func134, Tryz.ntmps134
    go_wp2_with (at_builtin; refine wpList_append_rd rfl _ _ 79 rfl 3 _ 1 8 Tryz.underlying79 info_int rfl (by decide) HS.out rfl HD.out rfl (by omega) (by omega) ?_; intro a' c'' b' w' h2 h3 h4)
    go_ret
    simp only [Nat.zero_add, List.nil_append] at h2 ⊢
    refine ⟨_, _, _, rfl, h2, ?_, ?_⟩
    · refine ⟨h3.os.trans HK.out.os, h3.tape.trans HK.out.tape, h3.output.trans HK.out.output, Nat.le_trans HK.out.size h3.size, fun b hb _ => ?_⟩
      rw [h3.keep b (Nat.lt_of_lt_of_le hb HK.out.size) (fun e => by cases e; omega)]
      exact HK.out.keep b hb (fun h => h)
    · intro b hb
      rcases h4 b hb with e | e
      · cases e; exact .inr (Nat.le_refl _)
      · exact .inr (Nat.le_trans HK.out.size e)

end Go.Proofs

/- The walks of package regs: how much a register has. -/
namespace Go.Proofs
open Go.RowKit Go.Em

theorem weigh_ge (l : List ByteArray) : l.length ≤ weigh l := by
  induction l with
  | nil => simp
  | cons x l ih => simp [weigh] at ih ⊢; omega

set_option maxRecDepth 100000 in
set_option maxHeartbeats 1000000 in
theorem size_reg {w : World} {a : Option Addr} {n c : Nat} {xs : List ByteArray} {wh : Bool} (h1 : Rd w 1 a n (vstr xs)) (hn : n < 9223372036854775807) (hw : weigh xs < 9223372036854775807) :
    Calls Tryz.prog 142 #[.agg #[.slice a n c, .bool wh]] w fun e w' => e = .returned (.int .i64 ((weigh xs : Nat) : Int)) ∧ w.alloc (.cells #[.slice a n c, .bool wh] 54) = w' := by
  have hxl : xs.length = n := by have := h1.len; rw [vstr_length, Nat.mul_one] at this; exact this
  have HX : Kp _ := ⟨hxl⟩
  have H1 : Kp _ := ⟨h1.keep ((Keep.refl w NoB).alloc (.cells #[.slice a n c, .bool wh] 54)) fun _ _ h => h⟩
  have HW : Kp _ := ⟨hw⟩
  clear hxl h1 hw
  go_enter Tryz.func142, Tryz.ntmps142
  go_wp2_with fail
  generalize hW : w.alloc (.cells #[.slice a n c, .bool wh] 54) = W at *
  have HWW : Kp _ := ⟨hW⟩
  clear hW
  go_loopw [12, 3] (fun j v wr => ∃ k : Nat, k ≤ n ∧ j = .int .i64 (k : Int) ∧ v = .int .i64 ((weigh (xs.take k) + (n - k) : Nat) : Int) ∧ W = wr) (fun j _ _ => n - (intOf j).toNat)
  case atStart => exact ⟨0, Nat.zero_le _, rfl, by simp [weigh], rfl⟩
  case round =>
    obtain ⟨k, hk, rfl, rfl, rfl⟩ := hrel
    by_cases hlt : k < n
    · obtain ⟨x, hx⟩ : ∃ x, xs[k]? = some x := ⟨_, List.getElem?_eq_getElem (by have := HX.out; omega)⟩
      obtain ⟨ad, hae, hc1⟩ := H1.out.cells k _ (vstr_get hx)
      have HWN : Kp _ := ⟨weigh_next hx⟩
      have hrest : weigh (xs.take k) + (n - k) + x.size < 9223372036854775807 := by
        have h1 := weigh_append (xs.take (k + 1)) (xs.drop (k + 1))
        rw [List.take_append_drop] at h1
        have h2 := weigh_ge (xs.drop (k + 1))
        rw [List.length_drop, HX.out] at h2
        have h3 := weigh_next hx
        have h4 := HW.out
        omega
      have HN : Kp (weigh (xs.take k) + (n - k) + x.size = weigh (xs.take (k + 1)) + (n - (k + 1))) := ⟨by rw [weigh_next hx]; omega⟩
      rw [hae]
      clear hx hae
      generalize weigh (xs.take k) + (n - k) = t at *
      go_wp2_with fail
      go_roundw
      case rel => exact ⟨k + 1, by omega, by go_num, by rw [← HN.out]; go_num, by first | rfl | trivial⟩
      case measure => simp [intOf]; omega
    · have hke : k = n := by omega
      subst hke
      have ht : xs.take k = xs := List.take_of_length_le (by have := HX.out; omega)
      rw [ht, Nat.sub_self, Nat.add_zero]
      clear ht
      go_wp2_with fail
      go_ret
      exact ⟨rfl, HWW.out⟩

end Go.Proofs

/- The walk of regs.clone (open: its result lies in a cell). -/
namespace Go.Proofs
open Go.RowKit Go.Em

/-- What a register that is cloned has. -/
def reged (xs : List ByteArray) : List ByteArray := if xs = [] then [⟨#[]⟩] else xs

set_option maxRecDepth 100000 in
set_option maxHeartbeats 1000000 in
theorem clone_reg {w : World} {a : Option Addr} {n c : Nat} {xs : List ByteArray} {wh : Bool} (h1 : Rd w 1 a n (vstr xs)) (hn : n ≤ 1048576) (hx : xs ≠ []) :
    Calls Tryz.prog 35 #[.agg #[.slice a n c, .bool wh]] w fun e w' => ∃ a' c' b', e = .returned (.agg #[.slice a' n c', .bool wh]) ∧ Sl w' 9 1 a' n c' (vstr xs) b' ∧ Keep w NoB w' ∧ Fresh w NoB (Opt b') := by
  have hxl : xs.length = n := by have := h1.len; rw [vstr_length, Nat.mul_one] at this; exact this
  have hn0 : ¬ ((n : Int) = 0) := by
    have : xs.length ≠ 0 := by rw [Ne, List.length_eq_zero_iff]; exact hx
    omega
  have HR : Kp (Rd ((w.alloc (.cells #[.slice a n c, .bool wh] 54)).alloc (.cells #[.slice none 0 0, .bool false] 54)) 1 a n (vstr xs)) := ⟨h1.keep (((Keep.refl w NoB).alloc _).alloc _) fun _ _ h => h⟩
  have HK : Kp (Keep w NoB ((w.alloc (.cells #[.slice a n c, .bool wh] 54)).alloc (.cells #[.slice none 0 0, .bool false] 54))) := ⟨((Keep.refl w NoB).alloc _).alloc _⟩
  clear h1 hx hxl
  go_enter Tryz.func35, Tryz.ntmps35
  go_wp2_with fail
  have h2 := heap_two w (.cells #[.slice a n c, .bool wh] 54) (.cells #[.slice none 0 0, .bool false] 54)
  have hb2 : ((w.alloc (.cells #[.slice a n c, .bool wh] 54)).alloc (.cells #[.slice none 0 0, .bool false] 54)).heap[w.heap.size + 1]? = _ := h2.1
  have hb1 : ((w.alloc (.cells #[.slice a n c, .bool wh] 54)).alloc (.cells #[.slice none 0 0, .bool false] 54)).heap[w.heap.size]? = _ := h2.2
  refine (clone_str HR.out hn).mono ?_
  rintro e w3 ⟨a', c', b', rfl, s3, k3, f3⟩
  have g1 := k3.blk hb1 fun h => h
  have g2 := k3.blk hb2 fun h => h
  have hsz : w.heap.size + 2 ≤ w3.heap.size := by have := k3.size; simp at this; omega
  have hfr : ∀ g, b' = some g → w.heap.size + 2 ≤ g := fun g hg => by
    have := (f3 g hg).resolve_left (fun h => h)
    simp at this; omega
  have e0 : w3.cell? ⟨w.heap.size, 0, none⟩ = some (.slice a n c) := by rw [cell_blk g1]; rfl
  have e1 : w3.cell? ⟨w.heap.size, 1, none⟩ = some (.bool wh) := by rw [cell_blk g1]; rfl
  have d0 : w3.cell? ⟨w.heap.size + 1, 0, none⟩ = some (.slice none 0 0) := by rw [cell_blk g2]; rfl
  have d1 : w3.cell? ⟨w.heap.size + 1, 1, none⟩ = some (.bool false) := by rw [cell_blk g2]; rfl
  have z0 := free_blk g1 0
  have y0 := free_blk g2 0
  have y1 := free_blk g2 1
  have S3 : Kp _ := ⟨s3⟩
  have K3 : Kp (Keep w NoB w3) := ⟨HK.out.trans k3 (Fresh.refl _ _)⟩
  have HFR : Kp _ := ⟨hfr⟩
  have G2 : Kp _ := ⟨g2⟩
  clear h2 hb1 hb2 s3 k3 f3 g1 g2 hfr HR HK
  go_wp2_with fail
  have hg := Go.Em.heap_setCell_same (Go.Em.heap_setCell_same ((Below.heap_setCell w3 ⟨w.heap.size, 0, none⟩ (.slice a' n c') (w.heap.size + 1) (by show w.heap.size + 1 ≠ w.heap.size; omega)).trans G2.out) 0 (.slice a' n c')) 1 (.bool wh)
  refine bodyPost_ret (results_cell_row rfl _ _ (w.heap.size + 1) _ _ _ _ rfl hg Tryz.underlying54 rfl (by kernel_rfl)) rfl ?_
  have hne : ∀ g, b' = some g → g ≠ w.heap.size ∧ g ≠ w.heap.size + 1 := fun g hg => by have := HFR.out g hg; omega
  refine ⟨a', c', b', rfl, S3.out.move fun g hg => ?_, ((K3.out.setCell (a := ⟨w.heap.size, 0, none⟩) (.inr (Nat.le_refl _)) _).setCell (a := ⟨w.heap.size + 1, 0, none⟩) (.inr (Nat.le_succ _)) _).setCell (a := ⟨w.heap.size + 1, 1, none⟩) (.inr (Nat.le_succ _)) _, fun g hg => .inr (by have := HFR.out g hg; omega)⟩
  exact ((Below.heap_setCell _ ⟨w.heap.size + 1, 1, none⟩ _ g (hne g hg).2).trans (Below.heap_setCell _ ⟨w.heap.size + 1, 0, none⟩ _ g (hne g hg).2)).trans (Below.heap_setCell w3 ⟨w.heap.size, 0, none⟩ _ g (hne g hg).1)

end Go.Proofs

/- Maps whose keys are whole numbers of one kind: what the map's operations do, over any program. -/
namespace Go.Em
open Go.RowKit Go.MapKept
variable {P : Program}

/-- One block is replaced. -/
def setB (w : World) (r : Nat) (o : Obj) : World := { w with heap := w.heap.setIfInBounds r o }
theorem setB_same {w : World} {r : Nat} {o o' : Obj} (hb : w.heap[r]? = some o) : (setB w r o').heap[r]? = some o' := (heap_set hb).1
theorem setB_keep {w : World} {r : Nat} {o o' : Obj} (hb : w.heap[r]? = some o) : Keep w (One r) (setB w r o') :=
  ⟨rfl, rfl, rfl, by simp [setB], fun b _ hn => (heap_set hb).2 b hn⟩
theorem setB_size (w : World) (r : Nat) (o : Obj) : (setB w r o).heap.size = w.heap.size := by simp [setB]

/-- Is it this number? -/
def kIs (q : IntKind) (k : Int) (v : Value) : Bool := match v with
  | .int q' k' => decide (q' = q) && decide (k' = k)
  | _ => false
theorem kIs_iff {q : IntKind} {k : Int} {v : Value} : kIs q k v = true ↔ v = .int q k := by
  unfold kIs
  split
  · simp
  · rename_i h
    constructor
    · intro h1; cases h1
    · intro h1; exact absurd h1 (h q k)
theorem kIs_false {q : IntKind} {k : Int} {v : Value} : kIs q k v = false ↔ v ≠ .int q k := by
  rw [Ne, ← kIs_iff]; simp
theorem kIs_self (q : IntKind) (k : Int) : kIs q k (.int q k) = true := kIs_iff.2 rfl
theorem kIs_num {q : IntKind} {i k : Int} (h : ¬ i = k) : kIs q i (.int q k) = false := kIs_false.2 (fun e => by cases e; exact h rfl)
/-- What lies at a key. -/
def mget (q : IntKind) (es : List MapEntry) (k : Int) : Option Value := (es.find? fun e => kIs q k e.key).map (·.val)
/-- Block b is a map whose keys are numbers of kind q; f says what lies where. -/
def MapIs (w : World) (b : Nat) (q : IntKind) (f : Int → Option Value) : Prop :=
  ∃ es clock, w.heap[b]? = some (.map es clock) ∧ Stamped es clock ∧ (∀ x ∈ es.toList, IsKey (.int q) x.key) ∧ ∀ k, mget q es.toList k = f k
def upd (f : Int → Option Value) (k : Int) (v : Option Value) : Int → Option Value := fun j => if j = k then v else f j
theorem upd_same (f : Int → Option Value) (k : Int) (v : Option Value) : upd f k v k = v := if_pos rfl
theorem upd_other (f : Int → Option Value) {k j : Int} (v : Option Value) (h : j ≠ k) : upd f k v j = f j := if_neg h

theorem MapIs.made (w : World) (q : IntKind) : MapIs (w.alloc (.map #[] 0)) w.heap.size q fun _ => none :=
  ⟨#[], 0, heap_alloc_new w _, stamped_empty 0, by simp, fun _ => by simp [mget]⟩
theorem MapIs.move {w w' : World} {b : Nat} {q : IntKind} {f : Int → Option Value} (h : MapIs w b q f) (hk : w'.heap[b]? = w.heap[b]?) : MapIs w' b q f := by
  obtain ⟨es, clock, hb, h1⟩ := h
  exact ⟨es, clock, hk.trans hb, h1⟩
theorem MapIs.lt {w : World} {b : Nat} {q : IntKind} {f : Int → Option Value} (h : MapIs w b q f) : b < w.heap.size := by
  obtain ⟨es, clock, hb, _⟩ := h
  exact (Array.getElem?_eq_some_iff.1 hb).1
theorem MapIs.keep {w w' : World} {F : Blocks} {b : Nat} {q : IntKind} {f : Int → Option Value} (h : MapIs w b q f) (hk : Keep w F w') (hn : ¬ F b) : MapIs w' b q f :=
  h.move (hk.keep b h.lt hn)

theorem isKey_int {q : IntKind} {v : Value} (h : IsKey (.int q) v) : ∃ k, v = .int q k := by
  cases v <;> simp [IsKey] at h
  subst h; exact ⟨_, rfl⟩

/-- Where a key lies, or that it lies nowhere. -/
theorem find_cases {q : IntKind} {es : Array MapEntry} {clock : Nat} (hs : Stamped es clock) (hks : ∀ x ∈ es.toList, IsKey (.int q) x.key) (k : Int) :
    (Instr.findNow (.int q) (.int q k) es.toList 0 = some none ∧ mget q es.toList k = none ∧ ∀ x ∈ es.toList, x.key ≠ .int q k) ∨
    ∃ (j : Nat) (e : MapEntry), Instr.findNow (.int q) (.int q k) es.toList 0 = some (some (j, e.val)) ∧ es[j]? = some e ∧ e.key = .int q k ∧ mget q es.toList k = some e.val := by
  rcases findNow_spec (d := .int q) (k := .int q k) rfl es.toList 0 hks with ⟨h1, h2⟩ | ⟨j, e, h1, h2, h3⟩
  · refine .inl ⟨h1, ?_, h2⟩
    unfold mget
    rw [List.find?_eq_none.2 (fun x hx => by simpa [kIs_iff] using h2 x hx)]
    rfl
  · rw [Nat.zero_add] at h1
    refine .inr ⟨j, e, h1, by simpa using h2, h3, ?_⟩
    unfold mget
    cases hf : es.toList.find? (fun e => kIs q k e.key) with
    | none =>
      have := List.find?_eq_none.1 hf e (List.mem_of_getElem? h2)
      simp [h3, kIs_self] at this
    | some e' =>
      have h4 := List.find?_some hf
      have h5 := List.mem_of_find?_eq_some hf
      simp only [kIs_iff] at h4
      obtain ⟨i, hi⟩ := List.getElem?_of_mem h5
      have hnd := hs.2.2
      have e1 : (es.toList.map (·.key))[j]? = some (Value.int q k) := by rw [List.getElem?_map, h2]; simp [h3]
      have e2 : (es.toList.map (·.key))[i]? = some (Value.int q k) := by rw [List.getElem?_map, hi]; simp [h4]
      have hij : i = j := by
        have hil := (List.getElem?_eq_some_iff.1 e2).1
        have hjl := (List.getElem?_eq_some_iff.1 e1).1
        exact ((List.getElem?_inj hil hnd).1 (by rw [e1, e2]))
      subst hij
      rw [h2] at hi
      cases hi
      rfl

theorem pos_of_find {q : IntKind} {k : Int} {es : List MapEntry} (f : MapEntry → MapEntry) (hf : ∀ e, e.key = .int q k → (f e).key = .int q k) :
    ∀ (j : Nat) (e : MapEntry), (es.map (·.key)).Nodup → es[j]? = some e → e.key = .int q k → ∀ i, mget q (es.modify j f) i = if i = k then some (f e).val else mget q es i := by
  induction es with
  | nil => intro j e _ h; simp at h
  | cons x es ih =>
    intro j e hnd hj hk i
    simp only [List.map_cons, List.nodup_cons] at hnd
    cases j with
    | zero =>
      simp only [List.getElem?_cons_zero, Option.some.injEq] at hj
      subst hj
      have hne : ∀ y ∈ es, y.key ≠ .int q k := fun y hy e => hnd.1 (by rw [hk, ← e]; exact List.mem_map_of_mem hy)
      unfold mget
      simp only [List.modify_zero_cons, List.find?_cons, hf x hk, hk]
      by_cases hik : i = k
      · subst hik; simp [kIs_self]
      · simp [kIs_num hik, hik]
    | succ j =>
      simp only [List.getElem?_cons_succ] at hj
      have hxk : x.key ≠ .int q k := fun e1 => hnd.1 (by rw [e1, ← hk]; exact List.mem_map_of_mem (List.mem_of_getElem? hj))
      have h1 := ih j e hnd.2 hj hk i
      unfold mget at h1 ⊢
      simp only [List.modify_succ_cons, List.find?_cons]
      by_cases hxi : x.key = .int q i
      · have hik : ¬ i = k := fun e => hxk (by rw [hxi, e])
        simp [hxi, kIs_self, hik]
      · simp only [kIs_false.2 hxi]
        exact h1

theorem mget_push {q : IntKind} {es : List MapEntry} {k : Int} {e : MapEntry} (he : e.key = .int q k) (hn : ∀ x ∈ es, x.key ≠ .int q k) (i : Int) :
    mget q (es ++ [e]) i = if i = k then some e.val else mget q es i := by
  unfold mget
  rw [List.find?_append]
  by_cases hik : i = k
  · subst hik
    rw [List.find?_eq_none.2 (fun x hx => by simpa [kIs_iff] using hn x hx)]
    simp [he, kIs_self]
  · simp [he, kIs_num hik, hik]

theorem mget_erase {q : IntKind} {k : Int} : ∀ {es : List MapEntry} (j : Nat) (e : MapEntry), (es.map (·.key)).Nodup → es[j]? = some e → e.key = .int q k → ∀ i, mget q (es.eraseIdx j) i = if i = k then none else mget q es i
  | [], j, e, _, h, _, _ => by simp at h
  | x :: es, 0, e, hnd, hj, hk, i => by
    simp only [List.getElem?_cons_zero, Option.some.injEq] at hj
    subst hj
    simp only [List.map_cons, List.nodup_cons] at hnd
    have hne : ∀ y ∈ es, y.key ≠ .int q k := fun y hy e => hnd.1 (by rw [hk, ← e]; exact List.mem_map_of_mem hy)
    unfold mget
    simp only [List.eraseIdx_cons_zero, List.find?_cons, hk]
    by_cases hik : i = k
    · subst hik
      rw [List.find?_eq_none.2 (fun y hy => by simpa [kIs_iff] using hne y hy)]
      simp
    · simp [kIs_num hik, hik]
  | x :: es, j + 1, e, hnd, hj, hk, i => by
    simp only [List.getElem?_cons_succ] at hj
    simp only [List.map_cons, List.nodup_cons] at hnd
    have hxk : x.key ≠ .int q k := fun e1 => hnd.1 (by rw [e1, ← hk]; exact List.mem_map_of_mem (List.mem_of_getElem? hj))
    have h1 := mget_erase j e hnd.2 hj hk i
    unfold mget at h1 ⊢
    simp only [List.eraseIdx_cons_succ, List.find?_cons]
    by_cases hxi : x.key = .int q i
    · have hik : ¬ i = k := fun e => hxk (by rw [hxi, e])
      simp [hxi, kIs_self, hik]
    · simp only [kIs_false.2 hxi]
      exact h1

section
variable {w : World} {b : Nat} {q : IntKind} {f : Int → Option Value} {t kt et : TypeId}

/-- A look into a map, with whether it is there. -/
theorem MapIs.look_ok (h : MapIs w b q f) (ht : P.underlying t = some (.map kt et)) (hk : P.underlying kt = some (.int q)) {z : Value} (hz : (zeroValue et).run P w = .ok z w) (k : Int) :
    (Instr.lookup t (.map (some b)) (.int q k) true).run P w = .ok (match f k with | some v => .tuple #[v, .bool true] | none => .tuple #[z, .bool false]) w := by
  obtain ⟨es, clock, hb, hs, hks, hf⟩ := h
  rw [← hf k]
  have h2 : (Instr.checkKey es.isEmpty 10000 kt (.int q k)).run P w = .ok () w := run_checkKey (P := P) (w := w) (k := .int q k) hk (by simp [IsKey]) es.isEmpty 9999
  have h3 := Go.MapKept.run_getObj_map (P := P) (w := w) hb
  rcases find_cases hs hks k with ⟨h1, hm, _⟩ | ⟨j, e, h1, _, _, hm⟩
  all_goals
    rw [hm]
    have hx := run_findKey (P := P) (w := w) hk h1
    unfold Instr.lookup
    rw [Sem.run_bind, run_underlying ht]
    simp only [Result.andThen]
    simp [h3, h2, hx, Result.andThen, Sem.run_bind]
  rw [hz]
/-- A look into a map. -/
theorem MapIs.look (h : MapIs w b q f) (ht : P.underlying t = some (.map kt et)) (hk : P.underlying kt = some (.int q)) {z : Value} (hz : (zeroValue et).run P w = .ok z w) (k : Int) :
    (Instr.lookup t (.map (some b)) (.int q k) false).run P w = .ok ((f k).getD z) w := by
  obtain ⟨es, clock, hb, hs, hks, hf⟩ := h
  rw [← hf k]
  have h2 : (Instr.checkKey es.isEmpty 10000 kt (.int q k)).run P w = .ok () w := run_checkKey (P := P) (w := w) (k := .int q k) hk (by simp [IsKey]) es.isEmpty 9999
  have h3 := Go.MapKept.run_getObj_map (P := P) (w := w) hb
  rcases find_cases hs hks k with ⟨h1, hm, _⟩ | ⟨j, e, h1, _, _, hm⟩
  all_goals
    rw [hm]
    have hx := run_findKey (P := P) (w := w) hk h1
    unfold Instr.lookup
    rw [Sem.run_bind, run_underlying ht]
    simp only [Result.andThen]
    simp [h3, h2, hx, Result.andThen, Sem.run_bind]
  · exact hz

/-- A store. -/
theorem MapIs.put (h : MapIs w b q f) (ht : P.underlying t = some (.map kt et)) (hk : P.underlying kt = some (.int q)) (k : Int) (v : Value) :
    ∃ o, (Instr.mapUpdate t (.map (some b)) (.int q k) v).run P w = .ok () (setB w b o) ∧ MapIs (setB w b o) b q (upd f k (some v)) := by
  obtain ⟨es, clock, hb, hs, hks, hf⟩ := h
  have h2 : (Instr.checkKey false 10000 kt (.int q k)).run P w = .ok () w := run_checkKey (P := P) (w := w) (k := .int q k) hk (by simp [IsKey]) false 9999
  have h3 := Go.MapKept.run_getObj_map (P := P) (w := w) hb
  rcases find_cases hs hks k with ⟨h1, hm, hne⟩ | ⟨j, e, h1, he, hek, hm⟩
  · have hx := run_findKey (P := P) (w := w) hk h1
    refine ⟨.map (es.push { key := .int q k, val := v, born := clock }) (clock + 1), ?_, _, _, setB_same hb, stamped_push hs hne, ?_, ?_⟩
    · simp [Instr.mapUpdate, run_underlying ht, h3, h2, hx, run_setObj_map _ hb, Result.andThen, setB]
    · intro x hx
      simp only [Array.toList_push, List.mem_append, List.mem_singleton] at hx
      rcases hx with hx | rfl
      · exact hks x hx
      · exact rfl
    · intro i
      rw [Array.toList_push, mget_push rfl hne i, hf i]
      rfl
  · have hx := run_findKey (P := P) (w := w) hk h1
    have hkey : ∀ e', es[j]? = some e' → ({ e' with key := .int q k, val := v } : MapEntry).key = e'.key := fun e' he' => by rw [he] at he'; cases he'; exact hek.symm
    refine ⟨.map (es.modify j fun e => { e with key := .int q k, val := v }) clock, ?_, _, _, setB_same hb, stamped_modify hs _ _ (fun _ _ => rfl) (fun e' _ he' => hkey e' he'), isKey_modify hks _ _ hkey, ?_⟩
    · simp [Instr.mapUpdate, run_underlying ht, h3, h2, hx, he, hek, run_keyThatStays (d := .int q) (k := .int q k) rfl, run_setObj_map _ hb, Result.andThen, setB]
    · intro i
      rw [Array.toList_modify, pos_of_find _ (fun _ _ => rfl) j e hs.2.2 (by simpa using he) hek i, hf i]
      rfl

/-- An entry is made ready for a store; its stamp. -/
theorem MapIs.entry (h : MapIs w b q f) (ht : P.underlying t = some (.map kt et)) (hk : P.underlying kt = some (.int q)) {z : Value} (hz : (zeroValue et).run P w = .ok z w) (k : Int) :
    ∃ o n, (Instr.mapEntry t (.map (some b)) (.int q k)).run P w = .ok (.tuple #[(f k).getD z, goInt n]) (setB w b o) ∧ MapIs (setB w b o) b q (upd f k (some ((f k).getD z))) ∧
      (∃ es clock, o = .map es clock ∧ ∃ e ∈ es.toList, e.key = .int q k ∧ e.born = n) := by
  obtain ⟨es, clock, hb, hs, hks, hf⟩ := h
  have h2 : (Instr.checkKey false 10000 kt (.int q k)).run P w = .ok () w := run_checkKey (P := P) (w := w) (k := .int q k) hk (by simp [IsKey]) false 9999
  have h3 := Go.MapKept.run_getObj_map (P := P) (w := w) hb
  rcases find_cases hs hks k with ⟨h1, hm, hne⟩ | ⟨j, e, h1, he, hek, hm⟩
  · have hx := run_findKey (P := P) (w := w) hk h1
    rw [← hf k, hm]
    refine ⟨.map (es.push { key := .int q k, val := z, born := clock }) (clock + 1), clock, ?_, ⟨_, _, setB_same hb, stamped_push hs hne, ?_, ?_⟩, _, _, rfl, { key := .int q k, val := z, born := clock }, by simp, rfl, rfl⟩
    · simp [Instr.mapEntry, run_underlying ht, h3, h2, hx, hz, run_setObj_map _ hb, Result.andThen, setB]
    · intro x hx
      simp only [Array.toList_push, List.mem_append, List.mem_singleton] at hx
      rcases hx with hx | rfl
      · exact hks x hx
      · exact rfl
    · intro i
      rw [Array.toList_push, mget_push rfl hne i, hf i]
      rfl
  · have hx := run_findKey (P := P) (w := w) hk h1
    rw [← hf k, hm]
    have hkey : ∀ e', es[j]? = some e' → ({ e' with key := .int q k } : MapEntry).key = e'.key := fun e' he' => by rw [he] at he'; cases he'; exact hek.symm
    have hjl := (Array.getElem?_eq_some_iff.1 he)
    refine ⟨.map (es.modify j fun e => { e with key := .int q k }) clock, e.born, ?_, ⟨_, _, setB_same hb, stamped_modify hs _ _ (fun _ _ => rfl) (fun e' _ he' => hkey e' he'), isKey_modify hks _ _ hkey, ?_⟩, _, _, rfl, { e with key := .int q k }, ?_, rfl, rfl⟩
    · simp [Instr.mapEntry, run_underlying ht, h3, h2, hx, he, hek, run_keyThatStays (d := .int q) (k := .int q k) rfl, run_setObj_map _ hb, Result.andThen, setB]
    · intro i
      rw [Array.toList_modify, pos_of_find _ (fun _ _ => rfl) j e hs.2.2 (by simpa using he) hek i, hf i]
      rfl
    · rw [Array.toList_modify]
      refine List.mem_of_getElem? (i := j) ?_
      rw [List.getElem?_modify]
      simp [hjl.1, hjl.2]

theorem findIdx_born {es : Array MapEntry} {clock : Nat} (hs : Stamped es clock) {e : MapEntry} (he : e ∈ es.toList) :
    ∃ i, es.findIdx? (fun x => (x.born : Int) == (e.born : Int)) = some i ∧ es[i]? = some e := by
  cases hf : es.findIdx? (fun x => (x.born : Int) == (e.born : Int)) with
  | none =>
    have := Array.findIdx?_eq_none_iff.1 hf e (Array.mem_def.2 he)
    simp at this
  | some i =>
    obtain ⟨hi, h1, _⟩ := Array.findIdx?_eq_some_iff_getElem.1 hf
    refine ⟨i, rfl, ?_⟩
    have h1' : es[i].born = e.born := by
      have := eq_of_beq h1
      omega
    obtain ⟨j, hj⟩ := List.getElem?_of_mem he
    have hnd := hs.2.1
    have e1 : (es.toList.map (·.born))[i]? = some e.born := by rw [List.getElem?_map]; simp [hi, h1']
    have e2 : (es.toList.map (·.born))[j]? = some e.born := by rw [List.getElem?_map, hj]; rfl
    have hil := (List.getElem?_eq_some_iff.1 e1).1
    have hij : i = j := (List.getElem?_inj hil hnd).1 (by rw [e1, e2])
    subst hij
    simpa using hj
/-- An entry is made ready, and stored to. -/
theorem MapIs.entry2 (h : MapIs w b q f) (ht : P.underlying t = some (.map kt et)) (hk : P.underlying kt = some (.int q)) {z : Value} (hz : (zeroValue et).run P w = .ok z w) (k : Int) (v : Value) :
    ∃ o o2 n y, (Instr.mapEntry t (.map (some b)) (.int q k)).run P w = .ok (.tuple #[y, .int .i64 (n : Nat)]) (setB w b o) ∧
      (∀ W : World, W.heap[b]? = some o → (Instr.entryStore t (.map (some b)) (.int .i64 (n : Nat)) v).run P W = .ok () (setB W b o2)) ∧
      ∀ W : World, W.heap[b]? = some o2 → MapIs W b q (upd f k (some v)) := by
  obtain ⟨o, n, h1, h2, es, clock, rfl, e, he, hek, rfl⟩ := h.entry ht hk hz k
  obtain ⟨es', clock', hb', hs, hks, hf⟩ := h2
  have hlt : b < w.heap.size := h.lt
  have hbb : (setB w b (.map es clock)).heap[b]? = some (.map es clock) := by simp [setB, hlt]
  rw [hbb] at hb'
  cases hb'
  obtain ⟨i, hi, hie⟩ := findIdx_born hs he
  refine ⟨_, .map (es.modify i fun e => { e with val := v }) clock, e.born, _, h1, fun W hW => ?_, fun W hW => ⟨_, _, hW, ?_, ?_, ?_⟩⟩
  · have ha : (asInt (.int .i64 (e.born : Nat))).run P W = .ok (e.born : Int) W := by simp [asInt, asIntOf]
    simp only [Instr.entryStore, Sem.run_bind, Go.MapKept.run_getObj_map hW, Result.andThen, ha, hi, run_setObj_map _ hW, setB]
  · exact stamped_modify hs _ _ (fun _ _ => rfl) (fun _ _ _ => rfl)
  · exact isKey_modify hks _ _ (fun _ _ => rfl)
  · intro j
    rw [Array.toList_modify, pos_of_find (fun e => { e with val := v }) (fun _ h => h) i e hs.2.2 (by simpa using hie) hek j, hf j]
    unfold upd
    split <;> rfl

/-- delete -/
theorem MapIs.del (h : MapIs w b q f) (ht : P.underlying t = some (.map kt et)) (hk : P.underlying kt = some (.int q)) (ty : TypeId) (k : Int) :
    ∃ o, (Builtin.delete_ #[t, kt] ty #[.map (some b), .int q k]).run P w = .ok (.tuple #[]) (setB w b o) ∧ MapIs (setB w b o) b q (upd f k none) := by
  obtain ⟨es, clock, hb, hs, hks, hf⟩ := h
  have h2 : (Instr.checkKey es.isEmpty 10000 kt (.int q k)).run P w = .ok () w := run_checkKey (P := P) (w := w) (k := .int q k) hk (by simp [IsKey]) es.isEmpty 9999
  have h3 := Go.MapKept.run_getObj_map (P := P) (w := w) hb
  rcases find_cases hs hks k with ⟨h1, hm, hne⟩ | ⟨j, e, h1, he, hek, hm⟩
  · have hx := run_findKey (P := P) (w := w) hk h1
    refine ⟨.map es clock, ?_, _, _, setB_same hb, hs, hks, ?_⟩
    · simp [Builtin.delete_, run_underlying ht, h3, h2, hx, run_setObj_map _ hb, Result.andThen, setB]
    · intro i
      rw [hf i]
      unfold upd
      split
      · rename_i hik; subst hik; rw [← hf i]; exact hm
      · rfl
  · have hx := run_findKey (P := P) (w := w) hk h1
    have hjl := (Array.getElem?_eq_some_iff.1 he).1
    have hel : (es.eraseIdxIfInBounds j).toList = es.toList.eraseIdx j := by
      unfold Array.eraseIdxIfInBounds
      rw [dif_pos hjl, Array.toList_eraseIdx]
    refine ⟨.map (es.eraseIdxIfInBounds j) clock, ?_, _, _, setB_same hb, stamped_erase hs _, ?_, ?_⟩
    · simp [Builtin.delete_, run_underlying ht, h3, h2, hx, run_setObj_map _ hb, Result.andThen, setB]
    · intro x hx
      rw [hel] at hx
      exact hks x ((List.eraseIdx_sublist _ _).subset hx)
    · intro i
      rw [hel, mget_erase j e hs.2.2 (by simpa using he) hek i, hf i]
      rfl
/-- maps.Clone's inner part. -/
theorem MapIs.clone (h : MapIs w b q f) (t : TypeId) :
    ∃ o, (Extern.MapsClone.clone #[.iface t (.map (some b))]).run P w = .ok (.iface t (.map (some w.heap.size))) (w.alloc o) ∧ MapIs (w.alloc o) w.heap.size q f := by
  obtain ⟨es, clock, hb, h1⟩ := h
  refine ⟨.map es clock, ?_, es, clock, heap_alloc_new w _, h1⟩
  have e : Extern.MapsClone.clone #[.iface t (.map (some b))] = (getObj b >>= fun o => match o with
      | .map entries clock => (newObj (.map entries clock) >>= fun n => pure (.iface t (.map (some n))))
      | _ => stuck "maps.clone: a map expected") := rfl
  rw [e]
  simp [Go.MapKept.run_getObj_map hb, Result.andThen]
end

end Go.Em

/- A region whose order is open: what only reads is taken where a plan says, as long as what it reads stays till the end's own operations. -/
namespace Go.Em
open Go
section
variable {P : Program} {ops : Array Oper} {Q : Exit → Act → World → Prop}

/-- No operation of the end has come up: then T holds. -/
def TillEnd (Z : List Nat) (T : World → Prop) (listed : Array Bool) (w : World) : Prop := (∀ z, z ∈ Z → listed.getD z true = false) → T w

def wpAnyT (P : Program) (ops : Array Oper) (Q : Exit → Act → World → Prop) (Z : List Nat) (T : World → Prop) : Nat → Array Bool → Act → World → Prop
  | 0, listed, a, w => Region.ready .any ops listed = [] ∧ Q .normal a w
  | fuel + 1, listed, a, w =>
    (Region.ready .any ops listed = [] → Q .normal a w) ∧
    ∀ i ∈ Region.ready .any ops listed, wpOp P ops Q i (fun a' w' => TillEnd Z T (listed.setIfInBounds i true) w' ∧ wpAnyT P ops Q Z T fuel (listed.setIfInBounds i true) a' w') a w

theorem wpAny_of_T {Z : List Nat} {T : World → Prop} : ∀ (fuel : Nat) (listed : Array Bool) (a : Act) (w : World), wpAnyT P ops Q Z T fuel listed a w → wpAny P .any ops Q fuel listed a w
  | 0, _, _, _, h => h
  | fuel + 1, _, _, _, h => ⟨h.1, fun i hi => wpOp_mono (fun a' w' h' => wpAny_of_T fuel _ a' w' h'.2) (h.2 i hi)⟩

theorem wpAnyT_first {Z : List Nat} {T : World → Prop} {i : Nat} {oi : Oper} {v : Value} (hi : ops[i]? = some oi) (hsel : ∀ (j : Nat) (o : Oper) cs b, ops[j]? = some o → o.op ≠ .select cs b)
    (hQ : ∀ c a w, Q (.panic c) (a.put oi.dst v) w → Q (.panic c) a w) (hz : ∀ z o, z ∈ Z → ops[z]? = some o → ∃ e ∈ o.after, Region.binds .any e = true ∧ e.on = i) (hiz : i ∉ Z) :
    ∀ (fuel : Nat) (listed : Array Bool) (a : Act) (w : World),
      (∀ j oj, ops[j]? = some oj → j ≠ i → listed.getD j true = false → (∀ e ∈ oj.after, Region.binds .any e = true → e.on ≠ i) → oi.apart ops oj = true) →
      (∀ z, z ∈ Z → listed.getD z true = false) → i ∈ Region.ready .any ops listed → YieldsIf P ops T oi v a → T w →
      wpAnyT P ops Q Z T fuel (listed.setIfInBounds i true) (a.put oi.dst v) w → wpAnyT P ops Q Z T (fuel + 1) listed a w := by
  intro fuel
  induction fuel with
  | zero =>
    intro listed a w _ hzl hr hy hS H
    refine ⟨fun h => (by rw [h] at hr; cases hr), fun j hj => ?_⟩
    by_cases hji : j = i
    · subst hji; exact hy.wpOp hi hS ⟨fun _ => hS, H⟩
    · have := ready_mono hj hji
      rw [H.1] at this
      cases this
  | succ fuel ih =>
    intro listed a w hfree hzl hr hy hS H
    refine ⟨fun h => (by rw [h] at hr; cases hr), fun j hj => ?_⟩
    by_cases hji : j = i
    · subst hji; exact hy.wpOp hi hS ⟨fun _ => hS, H⟩
    · have h1 := H.2 j (ready_mono hj hji)
      obtain ⟨hjun, oj, hoj, hall⟩ := mem_ready.1 hj
      have hnot : ∀ e ∈ oj.after, Region.binds .any e = true → e.on ≠ i := fun e he hb heq => by
        have h1 := hall e he hb
        have h0 := (mem_ready.1 hr).1
        rw [heq] at h1
        rcases Nat.lt_or_ge i listed.size with h' | h'
        · simp [h'] at h0 h1; rw [h0] at h1; cases h1
        · simp [Array.getElem?_eq_none h'] at h1
      have hjz : j ∉ Z := fun hm => by
        obtain ⟨e, he, hb, hon⟩ := hz j oj hm hoj
        exact hnot e he hb hon
      have hzj : ∀ z, z ∈ Z → (listed.setIfInBounds j true).getD z true = false := fun z hm => by
        rw [getD_set_ne true (fun e : j = z => hjz (e ▸ hm))]; exact hzl z hm
      have hzij : ∀ z, z ∈ Z → ((listed.setIfInBounds i true).setIfInBounds j true).getD z true = false := fun z hm => by
        rw [getD_set_ne true (fun e : j = z => hjz (e ▸ hm)), getD_set_ne true (fun e : i = z => hiz (e ▸ hm))]; exact hzl z hm
      have h2 := wpOp_putIf (S := T) hoj (hfree j oj hoj hji hjun hnot) (fun cs b => hsel i oi cs b hi) (fun cs b => hsel j oj cs b hoj) hQ hy h1
      have hfree' : ∀ k ok, ops[k]? = some ok → k ≠ i → (listed.setIfInBounds j true).getD k true = false →
          (∀ e ∈ ok.after, Region.binds .any e = true → e.on ≠ i) → oi.apart ops ok = true := fun k ok hk hki hun hno => by
        refine hfree k ok hk hki ?_ hno
        by_cases hjk : j = k
        · subst hjk; exact hjun
        · rw [getD_set_ne true hjk] at hun; exact hun
      refine wpOp_mono (fun a' w' h3 => ?_) h2
      have hT : T w' := h3.2.1 hzij
      refine ⟨fun _ => hT, ih (listed.setIfInBounds j true) a' w' hfree' hzj (ready_mono hr (Ne.symm hji)) h3.1 hT ?_⟩
      rw [Array.setIfInBounds_comm _ _ hji]
      exact h3.2.2

/-- What a plan asks: (true, i): number i only reads, its value is said; (false, i): number i is carried out, T stands behind it; then the end's operations. -/
def wpPlan (P : Program) (ops : Array Oper) (Q : Exit → Act → World → Prop) (T : World → Prop) (zs : List Oper) : List (Bool × Nat) → Act → World → Prop
  | [], a, w => wpList P ops Q zs a w
  | (true, i) :: rest, a, w => ∃ o v, ops[i]? = some o ∧ YieldsIf P ops T o v a ∧ wpPlan P ops Q T zs rest (a.put o.dst v) w
  | (false, i) :: rest, a, w => ∃ o, ops[i]? = some o ∧ wpList P ops (Exit.then (fun a' w' => T w' ∧ wpPlan P ops Q T zs rest a' w') Q) [o] a w

def endOk (ops : Array Oper) : List Nat → Array Bool → Bool
  | [], listed => Region.ready .any ops listed == []
  | z :: zs, listed => Region.ready .any ops listed == [z] && endOk ops zs (listed.setIfInBounds z true)

def planOk (ops : Array Oper) (zs : List Nat) : List (Bool × Nat) → Array Bool → Bool
  | [], listed => endOk ops zs listed
  | (true, i) :: rest, listed => (Region.ready .any ops listed).contains i && Region.free .any ops listed i && !zs.contains i && planOk ops zs rest (listed.setIfInBounds i true) &&
      zs.all (fun z => match ops[z]? with | some o => o.after.any (fun e => Region.binds .any e && e.on == i) | none => true) && zs.all (fun z => listed.getD z true == false)
  | (false, i) :: rest, listed => Region.ready .any ops listed == [i] && planOk ops zs rest (listed.setIfInBounds i true)

theorem wpAnyT_end {Z : List Nat} {T : World → Prop} : ∀ (zs : List Nat) (zo : List Oper) (fuel : Nat) (listed : Array Bool) (a : Act) (w : World), endOk ops zs listed = true → zs.map (ops[·]?) = zo.map some →
    zs.length ≤ fuel → (∀ z, z ∈ zs → z ∈ Z ∧ z < listed.size) → wpList P ops Q zo a w → wpAnyT P ops Q Z T fuel listed a w
  | [], zo, fuel, listed, a, w, hc, hm, _, _, h => by
    have : zo = [] := by simpa using hm.symm
    subst this
    have hr : Region.ready .any ops listed = [] := by simpa [endOk] using hc
    cases fuel with
    | zero => exact ⟨hr, h⟩
    | succ n => exact ⟨fun _ => h, by rw [hr]; simp⟩
  | z :: zs, zo, fuel, listed, a, w, hc, hm, hf, hz, h => by
    match zo, hm, h with
    | o :: zo, hm, h =>
    simp only [List.map_cons, List.cons.injEq] at hm
    simp only [endOk, Bool.and_eq_true, beq_iff_eq] at hc
    cases fuel with
    | zero => simp at hf
    | succ n =>
      refine ⟨fun h0 => (by rw [h0] at hc; simp at hc), fun j hj => ?_⟩
      rw [hc.1] at hj
      simp at hj
      subst hj
      unfold wpOp
      simp only [hm.1]
      unfold wpList at h
      have key : ∀ a' w', wpList P ops Q zo a' w' → TillEnd Z T (listed.setIfInBounds j true) w' ∧ wpAnyT P ops Q Z T n (listed.setIfInBounds j true) a' w' := fun a' w' h' =>
        ⟨fun hall => (by have := hall j (hz j (by simp)).1; have hlt := (hz j (by simp)).2; simp [hlt] at this), wpAnyT_end zs zo n _ a' w' hc.2 hm.2 (by simpa using hf) (fun z hm => ⟨(hz z (by simp [hm])).1, by simpa using (hz z (by simp [hm])).2⟩) h'⟩
      split
      · rename_i hw
        rw [if_pos hw] at h
        exact h.imp (Oper.wp_mono key) id
      · rename_i hw
        rw [if_neg hw] at h
        exact key _ _ h

theorem wpAnyT_plan {T : World → Prop} {zs : List Nat} {zo : List Oper} (hzo : zs.map (ops[·]?) = zo.map some) (hsel : Region.noSelect ops = true) (hQ : ∀ c a d v w, Q (.panic c) (a.put d v) w → Q (.panic c) a w) :
    ∀ (plan : List (Bool × Nat)) (fuel : Nat) (listed : Array Bool) (a : Act) (w : World), planOk ops zs plan listed = true → plan.length + zs.length ≤ fuel → (∀ z, z ∈ zs → z < listed.size) → T w →
      wpPlan P ops Q T zo plan a w → wpAnyT P ops Q zs T fuel listed a w
  | [], fuel, listed, a, w, hc, hf, hzl, _, h => wpAnyT_end zs zo fuel listed a w hc hzo (by simpa using hf) (fun z hm => ⟨hm, hzl z hm⟩) h
  | (true, i) :: rest, fuel, listed, a, w, hc, hf, hzl, hT, h => by
    obtain ⟨o, v, ho, hy, h⟩ := h
    simp only [planOk, Bool.and_eq_true] at hc
    obtain ⟨⟨⟨⟨⟨h1, h2⟩, h3⟩, h4⟩, h5⟩, h6⟩ := hc
    cases fuel with
    | zero => simp at hf
    | succ n =>
      simp only [List.length_cons] at hf
      refine wpAnyT_first ho (Region.noSelect_spec hsel) (fun c a w => hQ c a o.dst v w) ?_ (by simpa using h3) n listed a w (Region.free_spec ho h2) ?_ (by simpa using h1) hy hT
        (wpAnyT_plan hzo hsel hQ rest n _ _ w h4 (by omega) (fun z hm => by simpa using hzl z hm) hT h)
      · intro z oz hz hoz
        have := List.all_eq_true.1 h5 z hz
        simp only [hoz, Array.any_eq_true, Bool.and_eq_true, beq_iff_eq] at this
        obtain ⟨k, hk, hb, hon⟩ := this
        exact ⟨_, Array.getElem_mem hk, hb, hon⟩
      · intro z hz
        simpa using List.all_eq_true.1 h6 z hz
  | (false, i) :: rest, fuel, listed, a, w, hc, hf, hzl, hT, h => by
    obtain ⟨o, ho, h⟩ := h
    simp only [planOk, Bool.and_eq_true, beq_iff_eq] at hc
    cases fuel with
    | zero => simp at hf
    | succ n =>
      simp only [List.length_cons] at hf
      refine ⟨fun h0 => (by rw [h0] at hc; simp at hc), fun j hj => ?_⟩
      rw [hc.1] at hj
      simp at hj
      subst hj
      unfold wpOp
      simp only [ho]
      unfold wpList at h
      have key : ∀ a' w', (T w' ∧ wpPlan P ops Q T zo rest a' w') → TillEnd zs T (listed.setIfInBounds j true) w' ∧ wpAnyT P ops Q zs T n (listed.setIfInBounds j true) a' w' := fun a' w' h' =>
        ⟨fun _ => h'.1, wpAnyT_plan hzo hsel hQ rest n _ a' w' hc.2 (by omega) (fun z hm => by simpa using hzl z hm) h'.1 h'.2⟩
      -- the panics of the one operation are Q's own
      have conv : ∀ {K : Act → World → Prop}, o.wp P a w (wpList P ops (Exit.then K Q) []) (Exit.then K Q) → o.wp P a w K Q := by
        intro K hh
        unfold Oper.wp at hh ⊢
        generalize (execOp a.eval o).run P w = r at hh ⊢
        cases r with
        | ok x w' =>
          cases x <;> simp only [Oper.upon] at hh ⊢ <;> first
            | exact hh
            | exact Calls.mono hh (fun e w'' he => by cases e <;> exact he)
            | exact Rows.mono hh (fun _ _ he => he)
        | halt x w' => cases x <;> simp only [Oper.upon] at hh ⊢ <;> exact hh
      split
      · rename_i hw
        rw [if_pos hw] at h
        rcases h with h | h
        · exact .inl (Oper.wp_mono key (conv h))
        · exact .inr ⟨h.1, h.2⟩
      · rename_i hw
        rw [if_neg hw] at h
        exact key _ _ h

theorem range_drop {α : Type} : ∀ (l : List α) (k : Nat), (List.range' k (l.length - k)).map (l[·]?) = (l.drop k).map some
  | l, k => by
    refine List.ext_getElem (by simp) fun i h1 h2 => ?_
    simp at h1
    simp

/-- THE LAW: a region whose order is open, by a plan; the operations from k on are the end. -/
theorem wp_region_plan {id : Nat} {l : List Oper} {a : Act} {w : World} (T : World → Prop) (plan : List (Bool × Nat)) (k : Nat) (hm : P.follows .mixedOrders = true)
    (hc : (planOk l.toArray (List.range' k (l.length - k)) plan (Array.replicate l.length false) && (plan.length == k) && Nat.ble k l.length && Region.noSelect l.toArray) = true)
    (hQ : ∀ c a d v w, Q (.panic c) (a.put d v) w → Q (.panic c) a w) (hT : T w.drew) (h : wpPlan P l.toArray Q T (l.drop k) plan a w.drew) : (Code.region id l.toArray true).wp P Q a w := by
  simp only [Bool.and_eq_true, beq_iff_eq, Nat.ble_eq] at hc
  obtain ⟨⟨⟨h1, h2⟩, h3⟩, h4⟩ := hc
  refine wp_region_any hm (wpAny_of_T (Z := List.range' k (l.length - k)) (T := T) _ _ _ _ ?_)
  have e : l.toArray.size = l.length := by simp
  rw [e]
  refine wpAnyT_plan (zo := l.drop k) (by simpa using range_drop l k) h4 hQ plan _ _ a _ h1 (by simp; omega) (fun z hz => ?_) hT h
  have := List.mem_range'_1.1 hz
  simp; omega

theorem drop_at {α : Type} {l : List α} {i : Nat} {o : α} {tl : List α} (h : l.drop i = o :: tl) : l.toArray[i]? = some o := by
  have : (l.drop i)[0]? = some o := by rw [h]; rfl
  simpa using this
theorem plan_read {T : World → Prop} {zs l : List Oper} {i : Nat} {rest : List (Bool × Nat)} {a : Act} {w : World} (o : Oper) {tl : List Oper} (ho : l.drop i = o :: tl) (hw : Region.wanted o (yielded l.toArray a.tmps) = true) {v : Value}
    (h : ∀ W, T W → (execOp a.eval o).run P W = .ok (.value v) W) (k : wpPlan P l.toArray Q T zs rest (a.put o.dst v) w) : wpPlan P l.toArray Q T zs ((true, i) :: rest) a w := ⟨o, v, drop_at ho, .inl ⟨hw, h⟩, k⟩
theorem plan_skip {T : World → Prop} {zs l : List Oper} {i : Nat} {rest : List (Bool × Nat)} {a : Act} {w : World} (o : Oper) {tl : List Oper} (ho : l.drop i = o :: tl) (hw : Region.wanted o (yielded l.toArray a.tmps) = false)
    (k : wpPlan P l.toArray Q T zs rest (a.put o.dst undef) w) : wpPlan P l.toArray Q T zs ((true, i) :: rest) a w := ⟨o, undef, drop_at ho, .inr ⟨hw, rfl⟩, k⟩
theorem plan_do {T : World → Prop} {zs l : List Oper} {i : Nat} {rest : List (Bool × Nat)} {a : Act} {w : World} (o : Oper) {tl : List Oper} (ho : l.drop i = o :: tl)
    (h : wpList P l.toArray (Exit.then (fun a' w' => T w' ∧ wpPlan P l.toArray Q T zs rest a' w') Q) [o] a w) : wpPlan P l.toArray Q T zs ((false, i) :: rest) a w := ⟨o, drop_at ho, h⟩
theorem plan_end {T : World → Prop} {zs : List Oper} {a : Act} {w : World} (h : wpList P ops Q zs a w) : wpPlan P ops Q T zs [] a w := h

end
end Go.Em

/- Registers in memory; the walks of regs.New and lay. -/
namespace Go.Em
open Go.RowKit
def Dis (F G : Blocks) : Prop := ∀ b, F b → ¬ G b
theorem Dis.symm {F G : Blocks} (h : Dis F G) : Dis G F := fun b hg hf => h b hf hg
theorem Keep.setB {w w1 : World} {F : Blocks} (h : Keep w F w1) {r : Nat} (hr : F r ∨ w.heap.size ≤ r) {o : Obj} : Keep w F (setB w1 r o) :=
  ⟨h.os, h.tape, h.output, by have := h.size; simp [Go.Em.setB]; omega, fun b hb hn => by
    have hne : b ≠ r := fun e => by subst e; rcases hr with h1 | h1; exact hn h1; omega
    have : (Go.Em.setB w1 r o).heap[b]? = w1.heap[b]? := by simp [Go.Em.setB, Ne.symm hne]
    exact this.trans (h.keep b hb hn)⟩
theorem setB_other {w : World} {r b : Nat} {o : Obj} (h : b ≠ r) : (setB w r o).heap[b]? = w.heap[b]? := by simp [setB, Ne.symm h]
theorem setB_at {w : World} {r : Nat} {o : Obj} (h : r < w.heap.size) : (setB w r o).heap[r]? = some o := by simp [setB, h]
theorem setB_cell {w : World} {r : Nat} {o : Obj} {a : Addr} (h : a.block ≠ r) : (setB w r o).cell? a = w.cell? a := World.cell?_of_block (setB_other h)
theorem setB_frozen {w : World} {r : Nat} {o : Obj} {a : Addr} (h : a.block ≠ r) : (setB w r o).frozen? a = w.frozen? a := World.frozen?_of_block (setB_other h)
end Go.Em
namespace Go.Proofs
open Go.RowKit Go.Em

abbrev RegD := List ByteArray × Bool
/-- A value is a register's: these lines, in a block of their own. -/
def RegV (w : World) (G : Blocks) (v : Value) (x : RegD) : Prop :=
  ∃ a n c b, v = .agg #[.slice a n c, .bool x.2] ∧ Sl w 9 1 a n c (vstr x.1) b ∧ (∀ g, b = some g → G g) ∧ weigh x.1 ≤ 20000 ∧ x.1 ≠ []
/-- Registers. -/
def RMem (w : World) (rb : Nat) (f : Int → Option RegD) (G : Blocks) : Prop :=
  ∃ mb g H, rb ≠ mb ∧ w.heap[rb]? = some (.cells #[.map (some mb)] 68 (0, 0)) ∧ MapIs w mb .u8 g ∧
    (∀ c, (f c = none ∧ g c = none) ∨ ∃ x v, f c = some x ∧ g c = some v ∧ RegV w H v x) ∧ ¬ H rb ∧ ¬ H mb ∧ (∀ b, G b ↔ b = rb ∨ b = mb ∨ H b) ∧ ∀ b, G b → b < w.heap.size
theorem RegV.keep {w w' : World} {H F : Blocks} {v : Value} {x : RegD} (h : RegV w H v x) (hk : Keep w F w') (hn : Dis H F) : RegV w' H v x := by
  obtain ⟨a, n, c, b, h1, h2, h3, h4⟩ := h
  exact ⟨a, n, c, b, h1, h2.keep hk fun g hg => hn g (h3 g hg), h3, h4⟩
theorem RegV.mono {w : World} {H H' : Blocks} {v : Value} {x : RegD} (h : RegV w H v x) (hH : ∀ b, H b → H' b) : RegV w H' v x := by
  obtain ⟨a, n, c, b, h1, h2, h3, h4⟩ := h
  exact ⟨a, n, c, b, h1, h2, fun g hg => hH g (h3 g hg), h4⟩
theorem RMem.lt {w : World} {rb : Nat} {f : Int → Option RegD} {G : Blocks} (h : RMem w rb f G) : ∀ b, G b → b < w.heap.size := by
  obtain ⟨mb, g, H, h0, h1, h2, h3, h4, h5, h6, h7⟩ := h
  exact h7
theorem RMem.keep {w w' : World} {rb : Nat} {f : Int → Option RegD} {G F : Blocks} (h : RMem w rb f G) (hk : Keep w F w') (hn : Dis G F) : RMem w' rb f G := by
  obtain ⟨mb, g, H, h0, h1, h2, h3, h4, h5, h6, h7⟩ := h
  have hrb : ¬ F rb := hn rb ((h6 rb).2 (.inl rfl))
  have hmb : ¬ F mb := hn mb ((h6 mb).2 (.inr (.inl rfl)))
  refine ⟨mb, g, H, h0, hk.blk h1 hrb, h2.keep hk hmb, fun c => ?_, h4, h5, h6, fun b hb => by have := h7 b hb; have := hk.size; omega⟩
  rcases h3 c with h | ⟨x, v, e1, e2, h⟩
  · exact .inl h
  · exact .inr ⟨x, v, e1, e2, h.keep hk fun b hb => hn b ((h6 b).2 (.inr (.inr hb)))⟩

theorem zero_reg (w : World) : (zeroValue 54).run Tryz.prog w = .ok (.agg #[.slice none 0 0, .bool false]) w := by kernel_rfl

theorem new_regs (w : World) : Calls Tryz.prog 9 #[] w fun e w' => ∃ rb G, e = .returned (.pointer (some ⟨rb, 0, none⟩)) ∧ RMem w' rb (fun _ => none) G ∧ Keep w NoB w' ∧ ∀ b, G b → w.heap.size ≤ b := by
  have hmm := @run_makeMap Tryz.prog
  go_enter Tryz.func9, Tryz.ntmps9
  go_wp2_with fail
  go_ret
  have e1 : (w.alloc (.map #[] 0)).heap.size = w.heap.size + 1 := by simp
  refine ⟨w.heap.size + 1, fun b => b = w.heap.size + 1 ∨ b = w.heap.size, by first | rfl | simp, ⟨w.heap.size, fun _ => none, NoB, by omega, ?_, ?_, fun c => .inl ⟨rfl, rfl⟩, fun h => h, fun h => h, fun b => by unfold NoB; simp, fun b hb => by simp; omega⟩, ((Keep.refl w NoB).alloc _).alloc _, fun b hb => by omega⟩
  · have := heap_alloc_new (w.alloc (.map #[] 0)) (.cells #[.map (some w.heap.size)] 68)
    rw [e1] at this
    exact this
  · exact (MapIs.made w .u8).keep ((Keep.refl _ NoB).alloc _) fun h => h

end Go.Proofs

/- Marks in memory; the walks of marks.New and Copy. -/
namespace Go.Proofs
open Go.RowKit Go.Em

/-- Marks. -/
def KMem (w : World) (kb : Nat) (m : Int → Option Int) (G : Blocks) : Prop :=
  ∃ mb, kb ≠ mb ∧ w.heap[kb]? = some (.cells #[.map (some mb)] 100 (0, 0)) ∧ MapIs w mb .u8 (fun c => (m c).map (.int .i64)) ∧ (∀ b, G b ↔ b = kb ∨ b = mb)
theorem KMem.lt {w : World} {kb : Nat} {m : Int → Option Int} {G : Blocks} (h : KMem w kb m G) : ∀ b, G b → b < w.heap.size := by
  obtain ⟨mb, h0, h1, h2, h3⟩ := h
  intro b hb
  rcases (h3 b).1 hb with rfl | rfl
  · exact (Array.getElem?_eq_some_iff.1 h1).1
  · exact h2.lt
theorem KMem.keep {w w' : World} {kb : Nat} {m : Int → Option Int} {G F : Blocks} (h : KMem w kb m G) (hk : Keep w F w') (hn : Dis G F) : KMem w' kb m G := by
  obtain ⟨mb, h0, h1, h2, h3⟩ := h
  exact ⟨mb, h0, hk.blk h1 (hn _ ((h3 _).2 (.inl rfl))), h2.keep hk (hn _ ((h3 _).2 (.inr rfl))), h3⟩

theorem run_typeAssert_same {P : Program} (w : World) (t xT k e : TypeId) (v : Value) (h : P.underlying t = some (.map k e)) : (Instr.typeAssert (.iface t v) xT t false).run P w = .ok v w := by
  simp [Instr.typeAssert, run_underlying h, go_sem, Result.andThen]

theorem new_marks (w : World) : Calls Tryz.prog 24 #[] w fun e w' => ∃ kb G, e = .returned (.pointer (some ⟨kb, 0, none⟩)) ∧ KMem w' kb (fun _ => none) G ∧ Keep w NoB w' ∧ ∀ b, G b → w.heap.size ≤ b := by
  have hmm := @run_makeMap Tryz.prog
  go_enter Tryz.func24, Tryz.ntmps24
  go_wp2_with fail
  go_ret
  have e1 : (w.alloc (.map #[] 0)).heap.size = w.heap.size + 1 := by simp
  refine ⟨w.heap.size + 1, fun b => b = w.heap.size + 1 ∨ b = w.heap.size, by first | rfl | simp, ⟨w.heap.size, by omega, ?_, ?_, fun b => Iff.rfl⟩, ((Keep.refl w NoB).alloc _).alloc _, fun b hb => by omega⟩
  · have := heap_alloc_new (w.alloc (.map #[] 0)) (.cells #[.map (some w.heap.size)] 100)
    rw [e1] at this
    exact this
  · exact (MapIs.made w .u8).keep ((Keep.refl _ NoB).alloc _) fun h => h

set_option maxRecDepth 100000 in
theorem clone_map {w : World} {b : Nat} {f : Int → Option Value} (h : MapIs w b .u8 f) :
    Calls Tryz.prog 77 #[.map (some b)] w fun e w' => e = .returned (.map (some w.heap.size)) ∧ ∃ o, MapIs (w.alloc o) w.heap.size .u8 f ∧ w.alloc o = w' := by
  have hq := fun w : World => run_eql_map_nil (P := Tryz.prog) w 98 _ _ (some b) Tryz.underlying98
  obtain ⟨o, hrun, hm⟩ := h.clone (P := Tryz.prog) 98
  go_enter Tryz.func77, Tryz.ntmps77
  go_wp2_with fail
  rw [run_callFunc_extern Tryz.func104 (by kernel_rfl) (by kernel_rfl) (by kernel_rfl) (e := Extern.MapsClone.clone) (by kernel_rfl), hrun]
  simp only [Result.andThen]
  rw [Oper.upon_value]
  go_wp2_with fail
  rw [run_typeAssert_same _ 98 _ _ _ _ Tryz.underlying98]
  simp only [Result.andThen]
  rw [Oper.upon_value]
  go_wp2_with fail
  go_ret
  exact ⟨rfl, o, hm, rfl⟩

/-- Copy: the same marks, elsewhere. -/
theorem copy_marks {w : World} {kb : Nat} {m : Int → Option Int} {G : Blocks} (h : KMem w kb m G) :
    Calls Tryz.prog 43 #[.pointer (some ⟨kb, 0, none⟩)] w fun e w' => ∃ kb' G', e = .returned (.pointer (some ⟨kb', 0, none⟩)) ∧ KMem w' kb' m G' ∧ Keep w NoB w' ∧ ∀ b, G' b → w.heap.size ≤ b := by
  have hkl := h.lt
  obtain ⟨mb, h0, h1, h2, h3⟩ := h
  have e0 : w.cell? ⟨kb, 0, none⟩ = some (.map (some mb)) := by rw [cell_blk h1]; rfl
  have hb : kb < w.heap.size := hkl _ ((h3 _).2 (.inl rfl))
  have H2 : Kp _ := ⟨h2⟩
  clear h1 h2 h3 h0 hkl
  go_enter Tryz.func43, Tryz.ntmps43
  go_wp2_with ((refine (clone_map H2.out).mono ?_); rintro e w' ⟨rfl, o, hm, rfl⟩; have HM : Kp _ := ⟨hm⟩; clear hm)
  go_ret
  have e1 : (w.alloc o).heap.size = w.heap.size + 1 := by simp
  refine ⟨w.heap.size + 1, fun b => b = w.heap.size + 1 ∨ b = w.heap.size, by first | rfl | simp, ⟨w.heap.size, by omega, ?_, ?_, fun b => Iff.rfl⟩, ((Keep.refl w NoB).alloc _).alloc _, fun b hb => by omega⟩
  · have := heap_alloc_new (w.alloc o) (.cells #[.map (some w.heap.size)] 100)
    rw [e1] at this
    exact this
  · exact HM.out.keep ((Keep.refl _ NoB).alloc _) fun h => h

end Go.Proofs

/- The walks of undo.New and buf.long. -/
namespace Go.Proofs
open Go.RowKit Go.Em

def isLong (l : List ByteArray) : Bool := l.any fun s => decide (1000 < s.size)

theorem long1_calls (w : World) (s : ByteArray) : Calls Tryz.prog 41 #[.string s] w fun e w' => e = .returned (.bool (decide (1000 < s.size))) ∧ w = w' := by
  go_enter Tryz.func41, Tryz.ntmps41
  go_wp2_with fail
  go_ret
  exact ⟨by first | rfl | (refine congrArg (fun b => Ending.returned (Value.bool b)) (?_ : (_ : Bool) = _); rw [Bool.eq_iff_iff]; simp; omega), rfl⟩

set_option maxRecDepth 100000 in
set_option maxHeartbeats 1000000 in
theorem indexf_long {w : World} {a : Option Addr} {n c : Nat} {xs : List ByteArray} (h1 : Rd w 1 a n (vstr xs)) (hn : n < 9223372036854775807) :
    Calls Tryz.prog 73 #[.slice a n c, .func (.func 41) #[] #[]] w fun e w' => ∃ r : Int, e = .returned (.int .i64 r) ∧ ((0 ≤ r ∧ isLong xs = true) ∨ (r = -1 ∧ isLong xs = false)) ∧ w = w' := by
  have hxl : xs.length = n := by have := h1.len; rw [vstr_length, Nat.mul_one] at this; exact this
  have HX : Kp _ := ⟨hxl⟩
  have H1 : Kp _ := ⟨h1⟩
  clear hxl h1
  go_enter Tryz.func73, Tryz.ntmps73
  go_wp2_with fail
  go_loopw [8] (fun j wr => ∃ k : Nat, k ≤ n ∧ j = .int .i64 (k : Int) ∧ Kp (isLong (xs.take k) = false) ∧ w = wr) (fun j _ => n - (intOf j).toNat)
  case atStart => exact ⟨0, Nat.zero_le _, rfl, ⟨rfl⟩, rfl⟩
  case round =>
    obtain ⟨k, hk, rfl, HL, rfl⟩ := hrel
    by_cases hlt : k < n
    · obtain ⟨x, hx⟩ : ∃ x, xs[k]? = some x := ⟨_, List.getElem?_eq_getElem (by have := HX.out; omega)⟩
      obtain ⟨ad, hae, hc1⟩ := H1.out.cells k _ (vstr_get hx)
      have HXG : Kp _ := ⟨hx⟩
      rw [hae]
      clear hx hae
      by_cases hl : 1000 < x.size
      · have hd : decide (1000 < x.size) = true := by simpa using hl
        clear hl
        go_wp2_with ((with_reducible refine (long1_calls _ _).mono ?_)
                     rintro e w' ⟨rfl, rfl⟩
                     rw [hd])
        go_ret
        refine ⟨_, rfl, .inl ⟨by omega, ?_⟩, rfl⟩
        unfold isLong
        rw [List.any_eq_true]
        exact ⟨x, List.mem_of_getElem? HXG.out, hd⟩
      · have hd : decide (1000 < x.size) = false := by simpa using hl
        clear hl
        go_wp2_with ((with_reducible refine (long1_calls _ _).mono ?_)
                     rintro e w' ⟨rfl, rfl⟩
                     rw [hd])
        go_roundw
        case rel => exact ⟨k + 1, by omega, by go_num, ⟨by rw [take_next HXG.out]; unfold isLong at *; rw [List.any_append, HL.out]; simp only [List.any_cons, List.any_nil, hd, Bool.or_false]⟩, by first | rfl | trivial⟩
        case measure => simp [intOf]; omega
    · have hke : k = n := by omega
      subst hke
      have he := HL.out
      rw [List.take_of_length_le (by have := HX.out; omega)] at he
      have HE : Kp _ := ⟨he⟩
      clear HL he
      go_wp2_with fail
      go_ret
      exact ⟨_, rfl, .inr ⟨rfl, HE.out⟩, rfl⟩

set_option maxRecDepth 100000 in
theorem long_calls {w : World} {a : Option Addr} {n c : Nat} {xs : List ByteArray} (h1 : Rd w 1 a n (vstr xs)) (hn : n < 9223372036854775807) :
    Calls Tryz.prog 22 #[.slice a n c] w fun e w' => e = .returned (.bool (isLong xs)) ∧ w = w' := by
  have hcf : Calls Tryz.prog 40 #[.slice a n c, .func (.func 41) #[] #[]] w fun e w' => e = .returned (.bool (isLong xs)) ∧ w = w' := by
    have H1 : Kp _ := ⟨h1⟩
    clear h1
    go_enter Tryz.func40, Tryz.ntmps40
    go_wp2_with fail
    refine (indexf_long H1.out hn).mono ?_
    rintro e w' ⟨r, rfl, hr, rfl⟩
    rcases hr with ⟨h0, h2⟩ | ⟨rfl, h2⟩
    · have HE : Kp _ := ⟨h2⟩
      clear h2
      go_wp2_with fail
      go_ret
      exact ⟨by rw [HE.out]; rfl, rfl⟩
    · have HE : Kp _ := ⟨h2⟩
      clear h2
      go_wp2_with fail
      go_ret
      exact ⟨by rw [HE.out]; rfl, rfl⟩
  clear h1 hn
  have HC : Kp _ := ⟨hcf⟩
  clear hcf
  go_enter Tryz.func22, Tryz.ntmps22
  go_wp2_with fail
  refine HC.out.mono ?_
  rintro e w' ⟨rfl, rfl⟩
  go_wp2_with fail
  go_ret
  exact ⟨rfl, rfl⟩

set_option maxRecDepth 100000 in
theorem new_undo (w : World) {n : Int} (h0 : 1 ≤ n) (h1 : n ≤ 200) : Calls Tryz.prog 21 #[.int .i64 n] w fun e w' => ∃ ub, e = .returned (.pointer (some ⟨ub, 0, none⟩)) ∧ Keep w NoB w' ∧ w.heap.size ≤ ub ∧ ub < w'.heap.size := by
  have hmm := @run_makeMap Tryz.prog
  have hm := ((MapIs.made w .i64).keep ((Keep.refl (w.alloc (.map #[] 0)) NoB).alloc (.cells #[.int .i64 0, .int .i64 (-1), .int .i64 (-1), .slice none 0 0, .slice none 0 0] 92)) fun h => h).put (P := Tryz.prog) Tryz.underlying93 Tryz.underlying3 0 (.pointer (some ⟨w.heap.size + 1, 0, none⟩))
  obtain ⟨o, hrun, hm2⟩ := hm
  have HM : Kp _ := ⟨hm2⟩
  clear hm2
  go_enter Tryz.func21, Tryz.ntmps21
  go_wp2_with fail
  go_ret
  refine ⟨_, by first | rfl | simp, ((((Keep.refl w NoB).alloc _).alloc _).setB (.inr (Nat.le_refl _))).alloc _, ?_, ?_⟩
  · simp [setB_size]; omega
  · simp [setB_size]

end Go.Proofs

/- The walks of the tree's reading functions. -/
namespace Go.Proofs
open Go.RowKit Go.Em

theorem leaf_calls (nb o n c : Nat) (ka : Option Addr) (w : World) (h : w.cell? ⟨nb, o + 1, none⟩ = some (.slice ka n c)) :
    Calls Tryz.prog 87 #[.pointer (some ⟨nb, o, none⟩)] w fun e w' => e = .returned (.bool (decide (n = 0))) ∧ w = w' := by
  go_enter Tryz.func87, Tryz.ntmps87
  go_wp2
  go_ret
  refine ⟨?_, rfl⟩
  by_cases h0 : n = 0
  · subst h0; rfl
  · have : ((n : Int) == 0) = false := by simp; omega
    rw [this]; simp [h0]

theorem size_calls (nb o n c n2 c2 : Nat) (ka la : Option Addr) (w : World) (h : w.cell? ⟨nb, o + 1, none⟩ = some (.slice ka n c)) (h' : w.cell? ⟨nb, o, none⟩ = some (.slice la n2 c2)) (h1 : n < 1048576) (h2 : n2 < 1048576) :
    Calls Tryz.prog 132 #[.pointer (some ⟨nb, o, none⟩)] w fun e w' => e = .returned (.int .i64 ((n2 : Int) + n)) ∧ ∃ q, w' = w.drewN q := by
  go_enter Tryz.func132, Tryz.ntmps132
  go_wp2
  go_quiet (fail)
  go_wp2
  go_ret
  exact ⟨rfl, _, rfl⟩

theorem len_calls {w : World} {tb : Nat} {S : TS} {F : Blocks} (h : TMem w tb S F) {n : Nat} (hn : S.len = some n) :
    Calls Tryz.prog 14 #[.pointer (some ⟨tb, 0, none⟩)] w fun e w' => e = .returned (.int .i64 (n : Int)) ∧ ∃ q, w' = w.drewN q := by
  obtain ⟨⟨R, hm, _⟩, _⟩ := h
  cases hx : S.nodes[S.root]? with
  | none => simp [TS.len, hx] at hn
  | some x =>
    simp [TS.len, hx] at hn
    subst hn
    obtain ⟨nb, r, _, hna, _, hk, hle, hmax, c0, c1, c2⟩ := hm.node hx
    have h0 := hm.cell0
    have h2 := hm.cell2
    rw [hna] at h0
    clear hx hna hm
    go_enter Tryz.func14, Tryz.ntmps14
    go_wp2
    go_quiet (fail)
    go_wp2
    go_ret
    exact ⟨rfl, _, rfl⟩

end Go.Proofs

/- The walks of the tree's find and at. -/
namespace Go.Proofs
open Go.RowKit Go.Em

theorem findGo_cons {N : List ND} {kid : Nat} {rest : List Nat} {n i : Nat} {r : Nat × Nat} (h : findGo N (kid :: rest) n i = some r) :
    ∃ y, N[kid]? = some y ∧ ((i < y.count ∨ rest = []) ∧ r = (n, i) ∨ (¬ i < y.count ∧ rest ≠ []) ∧ findGo N rest (n + 1) (i - y.count) = some r) := by
  unfold findGo at h
  cases hy : N[kid]? with
  | none => simp [hy] at h
  | some y =>
    simp only [hy] at h
    refine ⟨y, rfl, ?_⟩
    split at h
    · rename_i hc; exact .inl ⟨hc, (Option.some.inj h).symm⟩
    · rename_i hc; exact .inr ⟨⟨fun h1 => hc (.inl h1), fun h1 => hc (.inr h1)⟩, h⟩

theorem drop_next {α : Type} {l : List α} {q : Nat} (h : q < l.length) : ∃ x, l[q]? = some x ∧ l.drop q = x :: l.drop (q + 1) :=
  ⟨l[q], List.getElem?_eq_getElem h, List.drop_eq_getElem_cons h⟩

set_option maxHeartbeats 1000000 in
theorem find_calls {w : World} {tb : Nat} {S : TS} {F : Blocks} (h : TMem w tb S F) {k i n j : Nat} (hf : S.find k i = some (n, j)) (hi : i < 1048576) :
    Calls Tryz.prog 88 #[.pointer (some ⟨tb, 0, none⟩), .int .i64 (k : Int), .int .i64 (i : Int)] w fun e w' => e = .returned (.tuple #[.int .i64 (n : Int), .int .i64 (j : Int)]) ∧ w = w' := by
  obtain ⟨⟨R, hm, _⟩, _⟩ := h
  unfold TS.find at hf
  cases hx : S.nodes[k]? with
  | none => simp [hx] at hf
  | some x =>
    simp only [hx] at hf
    obtain ⟨nb, r, _, hna, hr, hk, hle, hmax, c0, c1, c2⟩ := hm.node hx
    have h0 := hm.cell0
    rw [hna] at h0
    have hks := hm.kids hr hx
    have hkl := hks.le
    have hkm := hks.max
    have hkc : ∀ q y : Nat, x.kids[q]? = some y → ∃ kb, r.ka = some ⟨kb, 0, none⟩ ∧ w.cell? ⟨kb, q, none⟩ = some (.int .i64 (y : Int)) := by
      intro q y hq
      have hql := (List.getElem?_eq_some_iff.1 hq).1
      obtain ⟨kb, hb, ha⟩ := hks.nonnil (by omega)
      exact ⟨kb, ha, hks.cell hb (vint_get hq)⟩
    have hcn : ∀ y z, S.nodes[y]? = some z → y < S.nodes.length ∧ w.cell? ⟨nb, y * 3 + 2, none⟩ = some (.int .i64 (z.count : Int)) := by
      intro y z hy
      obtain ⟨nb', _, _, hna', _, hk', _, _, _, _, c2'⟩ := hm.node hy
      rw [hna] at hna'; cases hna'
      exact ⟨hk', c2'⟩
    generalize hka : r.ka = ka at *
    generalize hkcap : r.kc = kc at *
    generalize hnl : S.nodes.length = nl at *
    generalize hnc : R.nc = nc at *
    have HK : Kp _ := ⟨hkc⟩
    have HN : Kp _ := ⟨hcn⟩
    have HF : Kp _ := ⟨hf⟩
    clear hks hm hr hx c0 c2 hna hkc hcn hka hkcap hnl hnc hf
    generalize hL : x.kids = ks at *
    generalize hNN : S.nodes = N at *
    clear hL hNN
    have hml : ks.length < 9223372036854775808 := by omega
    go_enter Tryz.func88, Tryz.ntmps88
    go_wp2
    go_loop [2, 22] (fun a b => ∃ q i' : Nat, q ≤ ks.length ∧ i' < 1048576 ∧ a = .int .i64 (i' : Int) ∧ b = .int .i64 (q : Int) ∧ Kp (findGo N (ks.drop q) q i' = some (n, j))) (fun _ b => ks.length - (intOf b).toNat)
    case atStart => exact ⟨0, i, Nat.zero_le _, hi, rfl, rfl, ⟨by simpa using HF.out⟩⟩
    case round =>
      obtain ⟨q, i', hq, hi', rfl, rfl, HG⟩ := hrel
      by_cases hlt : q < ks.length
      · obtain ⟨y, hy, hd⟩ := drop_next hlt
        have hG := HG.out
        rw [hd] at hG
        obtain ⟨z, hz, hG⟩ := findGo_cons hG
        obtain ⟨kb, ha, hcell⟩ := HK.out q y hy
        obtain ⟨hyl, hcz⟩ := HN.out y z hz
        subst ha
        have hdn : ks.drop (q + 1) = [] ↔ ks.length = q + 1 := by rw [List.drop_eq_nil_iff]; omega
        simp only [ne_eq, hdn] at hG
        have HG2 : Kp _ := ⟨hG⟩
        clear HG hG hd hdn hz hy HK HN
        generalize z.count = cz at *
        rcases Nat.lt_or_ge i' cz with hc | hc
        · have hr : (n, j) = (q, i') := by
            rcases HG2.out with ⟨_, h⟩ | ⟨⟨h1, _⟩, _⟩
            · exact h
            · exact absurd hc h1
          have HR : Kp _ := ⟨Prod.mk.inj hr⟩
          clear hr HG2
          go_wp2
          go_ret2
          (obtain ⟨e1, e2⟩ := HR.out; subst e1; subst e2; exact ⟨rfl, rfl⟩)
        · by_cases hl : ks.length = q + 1
          · have hr : (n, j) = (q, i') := by
              rcases HG2.out with ⟨_, h⟩ | ⟨⟨_, h1⟩, _⟩
              · exact h
              · exact absurd hl h1
            have hb1 : (((q : Int)) == (ks.length : Int) - 1) = true := by simp; omega
            have HR : Kp _ := ⟨Prod.mk.inj hr⟩
            clear hr HG2 hl
            go_wp2
            go_ret2
            (obtain ⟨e1, e2⟩ := HR.out; subst e1; subst e2; exact ⟨rfl, rfl⟩)
          · have hr : findGo N (ks.drop (q + 1)) (q + 1) (i' - cz) = some (n, j) := by
              rcases HG2.out with ⟨h1 | h1, _⟩ | ⟨_, h⟩
              · omega
              · exact absurd h1 hl
              · exact h
            have hb1 : (((q : Int)) == (ks.length : Int) - 1) = false := by simp; omega
            have HR : Kp _ := ⟨hr⟩
            clear hr HG2 hl
            go_wp2
            go_round
            case rel => exact ⟨q + 1, i' - cz, by omega, by omega, by congr 1; omega, by go_num, HR⟩
            case measure => simp [intOf]; omega
      · have hqe : q = ks.length := by omega
        have hG := HG.out
        rw [List.drop_eq_nil_of_le (by omega)] at hG
        simp [findGo] at hG
        obtain ⟨hn0, hj0⟩ := hG
        subst hn0; subst hj0
        clear HG HK HN
        go_wp2
        go_ret2
        exact ⟨rfl, rfl⟩

end Go.Proofs
