/- Parts. -/
import Derived.Test.YtajpgjbepebcmaaGreatDoorV2
import Derived.Laws.MakeOwn
namespace Go.Em

def Pre (N : List ND) : Nat → Nat → List ByteArray → List Nat → Prop
  | 0, k, l, us => us = [k] ∧ ∃ c, N[k]? = some ⟨l, [], c⟩
  | h + 1, k, l, us => ∃ kids ls uss c, N[k]? = some ⟨[], kids, c⟩ ∧ kids ≠ [] ∧
      All3 (fun k l u => Rep N h k l u ∧ Fit N k) kids ls uss ∧ l = ls.flatten ∧ us = k :: uss.flatten

theorem Rep.pre {N : List ND} {h k l us} (hr : Rep N h k l us) : Pre N h k l us := by
  cases h with
  | zero => exact ⟨hr.1, _, hr.2⟩
  | succ h => obtain ⟨kids, ls, uss, h1, h2⟩ := hr; exact ⟨kids, ls, uss, _, h1, h2⟩

theorem Pre.root_mem {N : List ND} {h k l us} (hr : Pre N h k l us) : k ∈ us := by
  cases h with
  | zero => rw [hr.1]; simp
  | succ h => obtain ⟨_, _, _, _, _, _, _, _, rfl⟩ := hr; simp

theorem Pre.congr {N N' : List ND} {h k l us} (hr : Pre N h k l us) (hc : ∀ j, j ∈ us → N'[j]? = N[j]?) : Pre N' h k l us := by
  cases h with
  | zero => obtain ⟨rfl, c, h2⟩ := hr; exact ⟨rfl, c, by rw [hc k (by simp)]; exact h2⟩
  | succ h =>
    obtain ⟨kids, ls, uss, c, hk, hne, ha, hl, rfl⟩ := hr
    exact ⟨kids, ls, uss, c, by rw [hc k (by simp)]; exact hk, hne, ha.congr fun j hj => hc j (by simp only [List.mem_cons]; exact .inr hj), hl, rfl⟩

theorem All3.mem {R : Nat → List ByteArray → List Nat → Prop} : ∀ {ks ls us}, All3 R ks ls us → (∀ k l u, R k l u → k ∈ u) → ∀ k, k ∈ ks → k ∈ us.flatten
  | [], [], [], _, _, k, hk => by simp at hk
  | k :: ks, l :: ls, u :: us, h, hr, k', hk => by
    simp only [List.mem_cons] at hk
    simp only [List.flatten_cons, List.mem_append]
    rcases hk with rfl | hk
    · exact .inl (hr _ _ _ h.1)
    · exact .inr (All3.mem h.2 hr k' hk)
  | [], [], _ :: _, h, _, _, _ => h.elim
  | [], _ :: _, _, h, _, _, _ => h.elim
  | _ :: _, [], _, h, _, _, _ => h.elim
  | _ :: _, _ :: _, [], h, _, _, _ => h.elim

theorem sum_spec {S : TS} {h k l us} (hp : Pre S.nodes h k l us) (hn : us.Nodup) (hl : l.length < cap) :
    ∃ x x', S.nodes[k]? = some x ∧ S.sum k = some (S.setNode k x') ∧ Rep (S.setNode k x').nodes h k l us ∧ x'.lines = x.lines ∧ x'.kids = x.kids := by
  cases h with
  | zero =>
    obtain ⟨rfl, c, hx⟩ := hp
    have hlt := (List.getElem?_eq_some_iff.1 hx).1
    refine ⟨_, ⟨l, [], l.length⟩, hx, ?_, ⟨rfl, set_get S k _ hlt⟩, rfl, rfl⟩
    simp [TS.sum, hx, hl, addCounts]
  | succ h =>
    obtain ⟨kids, ls, uss, c, hk, hne, ha, rfl, rfl⟩ := hp
    have hlt := (List.getElem?_eq_some_iff.1 hk).1
    rw [List.nodup_cons] at hn
    have hnk : k ∉ kids := fun hm => hn.1 (ha.mem (fun _ _ _ hh => hh.1.root_mem) k hm)
    have hadd := addCounts_spec 0 ha (by omega)
    refine ⟨_, ⟨[], kids, ls.flatten.length⟩, hk, ?_, ⟨kids, ls, uss, set_get S k _ hlt, hne, ?_, rfl, rfl⟩, rfl, rfl⟩
    · simp only [TS.sum, hk, if_neg hnk, List.length_nil]
      rw [if_pos (by unfold cap; omega), hadd]; simp
    · exact ha.congr fun j hj => set_other S _ (fun e => hn.1 (e ▸ hj))

theorem size_of {N : List ND} {k s : Nat} {x : ND} (h : ∃ x, N[k]? = some x ∧ x.size = s) (hx : N[k]? = some x) : x.size = s := by
  obtain ⟨y, hy, hs⟩ := h
  rw [hy] at hx; cases hx; exact hs

theorem nodup_left {us rest : List Nat} {S : TS} (h : Part (us ++ rest) S) : us.Nodup := (List.nodup_append.1 h.nodupA).1
theorem apart {us rest : List Nat} {S : TS} (h : Part (us ++ rest) S) {j k : Nat} (hj : j ∈ us) (hk : k ∈ rest) : j ≠ k :=
  (List.nodup_append.1 h.nodupA).2.2 j hj k hk

theorem split_spec {S : TS} {h k l us rest} (hr : Rep S.nodes h k l us) {x : ND} (hx : S.nodes[k]? = some x) (hs : x.size ≤ 9) (hp : Part (us ++ rest) S)
    (hc : S.nodes.length < cap) (hl : l.length < cap) :
    ∃ o S', S.split k = some (o, S') ∧ Grow S S' 1 ∧ (∀ j, j ∈ rest → S'.nodes[j]? = S.nodes[j]?) ∧
      ((o = none ∧ S' = S ∧ x.size ≤ 8) ∨
       ∃ k2 l1 l2 us1 us2, o = some k2 ∧ x.size = 9 ∧ l = l1 ++ l2 ∧ Rep S'.nodes h k l1 us1 ∧ Rep S'.nodes h k2 l2 us2 ∧ Fit S'.nodes k ∧ Fit S'.nodes k2 ∧ Part (us1 ++ us2 ++ rest) S') := by
  by_cases h8 : x.size ≤ 8
  · exact ⟨none, S, by simp [TS.split, hx, h8], (Grow.refl S).mono (by omega), fun _ _ => rfl, .inl ⟨rfl, rfl, h8⟩⟩
  have hklt := (List.getElem?_eq_some_iff.1 hx).1
  have hkus := hr.root_mem
  cases h with
  | zero =>
    obtain ⟨rfl, hx'⟩ := hr
    rw [hx'] at hx; cases hx
    simp only [ND.size, List.length_nil, Nat.add_zero] at h8 hs
    have e9 : l.length = 9 := by omega
    let x' : ND := ⟨l.take 4, [], 9⟩
    let y : ND := ⟨l.drop 4, [], 0⟩
    obtain ⟨other, S2, hm, hp2, hget, hoth, hg⟩ := make_spec (A := [k] ++ rest) (S := S.setNode k x') y (hp.set k x') (by simpa [TS.setNode] using hc)
    have hk2 : S2.nodes[k]? = some x' := by rw [hoth k (by simp)]; exact set_get S k x' hklt
    have hne : other ≠ k := fun e => by have := hp2.nodupA; rw [List.nodup_cons] at this; exact this.1 (by simp [e])
    have hnr : ∀ j, j ∈ rest → j ≠ k ∧ j ≠ other := fun j hj =>
      ⟨fun e => apart hp (by simp) hj e.symm, fun e => by have := hp2.nodupA; rw [List.nodup_cons] at this; exact this.1 (by simp [← e, hj])⟩
    obtain ⟨xa, xa', ha1, ha2, ha3, ha4, ha5⟩ := sum_spec (S := S2) (h := 0) (k := k) (l := l.take 4) (us := [k]) ⟨rfl, 9, hk2⟩ (by simp) (by simp; omega)
    obtain ⟨xb, xb', hb1, hb2, hb3, hb4, hb5⟩ := sum_spec (S := S2.setNode k xa') (h := 0) (k := other) (l := l.drop 4) (us := [other])
      ⟨rfl, 0, by rw [set_other _ _ hne]; exact hget⟩ (by simp) (by simp; omega)
    refine ⟨some other, (S2.setNode k xa').setNode other xb', ?_, ((Grow.set S k x').trans (hg.trans ((Grow.set S2 k xa').trans (Grow.set _ other xb')))).mono (by omega), fun j hj => ?_,
      .inr ⟨other, l.take 4, l.drop 4, [k], [other], rfl, by simp [ND.size, e9], (List.take_append_drop 4 l).symm, ?_, hb3, ?_, ?_, ?_⟩⟩
    · have hsz : ¬ (⟨l, [], l.length⟩ : ND).size ≤ 8 := by simp [ND.size]; omega
      have hcz : ¬ cap ≤ (⟨l, [], l.length⟩ : ND).size := by simp [ND.size, cap]; omega
      simp only [TS.split, hx', if_neg hsz, if_neg hcz, if_true]
      have hh : (⟨l, [], l.length⟩ : ND).size / 2 = 4 := by simp [ND.size, e9]
      simp only [hh]
      have hm' : (S.setNode k ⟨l.take 4, [], l.length⟩).make ⟨l.drop 4, [], 0⟩ = some (other, S2) := by rw [e9]; exact hm
      simp only [hm', ha2, hb2]
    · rw [set_other _ _ (hnr j hj).2, set_other _ _ (hnr j hj).1, hoth j (by simp [hj]), set_other _ _ (hnr j hj).1]
    · exact ha3.congr fun j hj => by simp at hj; subst hj; exact set_other _ _ (Ne.symm hne)
    · refine ⟨xa', by rw [set_other _ _ (Ne.symm hne)]; exact set_get _ _ _ (List.getElem?_eq_some_iff.1 hk2).1, ?_⟩
      rw [hk2] at ha1; cases ha1
      simp only [ND.size, ha4, ha5]
      simp [x', e9]
    · refine ⟨xb', set_get _ _ _ (by simp [TS.setNode]; exact (List.getElem?_eq_some_iff.1 hget).1), ?_⟩
      rw [set_other _ _ hne, hget] at hb1; cases hb1
      simp only [ND.size, hb4, hb5]
      simp [y, e9]
    · refine Part.set (Part.set (hp2.perm ?_) _ _) _ _
      simp only [List.cons_append, List.nil_append]
      exact List.Perm.swap _ _ _
  | succ h =>
    obtain ⟨kids, ls, uss, hx', hne0, ha, rfl, rfl⟩ := hr
    rw [hx'] at hx; cases hx
    simp only [ND.size, List.length_nil, Nat.zero_add] at h8 hs
    have e9 : kids.length = 9 := by omega
    have hnd := nodup_left hp
    rw [List.nodup_cons] at hnd
    obtain ⟨hA, hB⟩ := All3.split 4 ha
    let x' : ND := ⟨[], kids.take 4, ls.flatten.length⟩
    let y : ND := ⟨[], kids.drop 4, 0⟩
    obtain ⟨other, S2, hm, hp2, hget, hoth, hg⟩ := make_spec (A := (k :: uss.flatten) ++ rest) (S := S.setNode k x') y (hp.set k x') (by simpa [TS.setNode] using hc)
    have hk2 : S2.nodes[k]? = some x' := by rw [hoth k (by simp)]; exact set_get S k x' hklt
    have hnew : ∀ j, j ∈ (k :: uss.flatten) ++ rest → other ≠ j := fun j hj e => by have := hp2.nodupA; rw [List.nodup_cons] at this; exact this.1 (e ▸ hj)
    have hne : other ≠ k := hnew k (by simp)
    have hnr : ∀ j, j ∈ rest → j ≠ k ∧ j ≠ other := fun j hj =>
      ⟨fun e => apart hp (by simp) hj e.symm, fun e => hnew j (by simp only [List.mem_append]; exact .inr hj) e.symm⟩
    have huss : uss.flatten = (uss.take 4).flatten ++ (uss.drop 4).flatten := by rw [← List.flatten_append, List.take_append_drop]
    have hls : ls.flatten = (ls.take 4).flatten ++ (ls.drop 4).flatten := by rw [← List.flatten_append, List.take_append_drop]
    have hsub1 : ∀ j, j ∈ (uss.take 4).flatten → j ∈ uss.flatten := fun j hj => by rw [huss]; exact List.mem_append.2 (.inl hj)
    have hsub2 : ∀ j, j ∈ (uss.drop 4).flatten → j ∈ uss.flatten := fun j hj => by rw [huss]; exact List.mem_append.2 (.inr hj)
    have hkus' : ∀ j, j ∈ uss.flatten → j ≠ k := fun j hj e => hnd.1 (e ▸ hj)
    have hkeep : ∀ j, j ∈ uss.flatten → S2.nodes[j]? = S.nodes[j]? := fun j hj => by
      rw [hoth j (by simp only [List.mem_append, List.mem_cons]; exact .inl (.inr hj)), set_other _ _ (hkus' j hj)]
    have hA2 := hA.congr (N' := S2.nodes) fun j hj => hkeep j (hsub1 j hj)
    have hnA : (k :: (uss.take 4).flatten).Nodup := by
      rw [List.nodup_cons]; refine ⟨fun hm => hnd.1 (hsub1 k hm), ?_⟩
      have h2 := hnd.2; rw [huss, List.nodup_append] at h2; exact h2.1
    have hnB : (other :: (uss.drop 4).flatten).Nodup := by
      rw [List.nodup_cons]; refine ⟨fun hm => hnew other (by simp only [List.mem_append, List.mem_cons]; exact .inl (.inr (hsub2 _ hm))) rfl, ?_⟩
      have h2 := hnd.2; rw [huss, List.nodup_append] at h2; exact h2.2.1
    obtain ⟨xa, xa', ha1, ha2, ha3, ha4, ha5⟩ := sum_spec (S := S2) (h := h + 1) (k := k) (l := (ls.take 4).flatten) (us := k :: (uss.take 4).flatten)
      ⟨kids.take 4, ls.take 4, uss.take 4, _, hk2, by intro e; have := congrArg List.length e; rw [List.length_take, e9] at this; simp at this, hA2, rfl, rfl⟩ hnA (by have := congrArg List.length hls; simp only [List.length_append] at this; omega)
    have hB2 := hB.congr (N' := (S2.setNode k xa').nodes) fun j hj => by rw [set_other _ _ (hkus' j (hsub2 j hj))]; exact hkeep j (hsub2 j hj)
    obtain ⟨xb, xb', hb1, hb2, hb3, hb4, hb5⟩ := sum_spec (S := S2.setNode k xa') (h := h + 1) (k := other) (l := (ls.drop 4).flatten) (us := other :: (uss.drop 4).flatten)
      ⟨kids.drop 4, ls.drop 4, uss.drop 4, 0, by rw [set_other _ _ hne]; exact hget, by intro e; have := congrArg List.length e; rw [List.length_drop, e9] at this; simp at this, hB2, rfl, rfl⟩ hnB
      (by have := congrArg List.length hls; simp only [List.length_append] at this; omega)
    refine ⟨some other, (S2.setNode k xa').setNode other xb', ?_, ((Grow.set S k x').trans (hg.trans ((Grow.set S2 k xa').trans (Grow.set _ other xb')))).mono (by omega), fun j hj => ?_,
      .inr ⟨other, (ls.take 4).flatten, (ls.drop 4).flatten, k :: (uss.take 4).flatten, other :: (uss.drop 4).flatten, rfl, by simp [ND.size, e9], hls, ?_, hb3, ?_, ?_, ?_⟩⟩
    · have hsz : ¬ (⟨[], kids, ls.flatten.length⟩ : ND).size ≤ 8 := by simp [ND.size]; omega
      have hh : (⟨[], kids, ls.flatten.length⟩ : ND).size / 2 = 4 := by simp [ND.size, e9]
      have hcz : ¬ cap ≤ (⟨[], kids, ls.flatten.length⟩ : ND).size := by simp [ND.size, cap]; omega
      simp only [TS.split, hx', if_neg hsz, if_neg hcz, if_neg hne0, hh]
      rw [if_pos (by omega)]
      have hm' : (S.setNode k ⟨[], kids.take 4, ls.flatten.length⟩).make ⟨[], kids.drop 4, 0⟩ = some (other, S2) := hm
      simp only [hm', ha2, hb2]
    · rw [set_other _ _ (hnr j hj).2, set_other _ _ (hnr j hj).1, hoth j (by simp only [List.mem_append]; exact .inr hj), set_other _ _ (hnr j hj).1]
    · refine ha3.congr fun j hj => set_other _ _ ?_
      refine (hnew j ?_).symm
      simp only [List.mem_cons] at hj
      simp only [List.mem_append, List.mem_cons]
      exact .inl (hj.imp id (hsub1 j))
    · refine ⟨xa', by rw [set_other _ _ (Ne.symm hne)]; exact set_get _ _ _ (List.getElem?_eq_some_iff.1 hk2).1, ?_⟩
      rw [hk2] at ha1; cases ha1
      simp only [ND.size, ha4, ha5]
      simp [x', e9]
    · refine ⟨xb', set_get _ _ _ (by simp [TS.setNode]; exact (List.getElem?_eq_some_iff.1 hget).1), ?_⟩
      rw [set_other _ _ hne, hget] at hb1; cases hb1
      simp only [ND.size, hb4, hb5]
      simp [y, e9]
    · refine Part.set (Part.set (hp2.perm ?_) _ _) _ _
      rw [huss]
      simp only [List.cons_append, List.append_assoc]
      refine List.Perm.trans (List.Perm.cons _ (List.perm_middle)) ?_
      exact List.Perm.swap _ _ _

end Go.Em

namespace Go.Em

def ins {α : Type} (l : List α) (i : Nat) (x : α) : List α := l.take i ++ x :: l.drop i

theorem insertIdx_ins {α : Type} (l : List α) (i : Nat) (x : α) (h : i ≤ l.length) : l.insertIdx i x = ins l i x := by
  unfold ins
  induction l generalizing i with
  | nil => cases i <;> simp_all
  | cons a l ih => cases i with
    | zero => simp
    | succ i => simp at h; simp [ih i h]

theorem ins_length {α : Type} (l : List α) (i : Nat) (x : α) (h : i ≤ l.length) : (ins l i x).length = l.length + 1 := by
  simp [ins]; omega

theorem ins_mid {α : Type} (a b c : List α) (j : Nat) (x : α) (h : j ≤ b.length) : ins (a ++ b ++ c) (a.length + j) x = a ++ ins b j x ++ c := by
  unfold ins
  rw [List.append_assoc, List.take_length_add_append, List.drop_length_add_append, List.take_append_of_le_length h, List.drop_append_of_le_length h]
  simp

theorem ins_after {α : Type} (a c : List α) (y x : α) (n : Nat) (h : a.length = n) : ins (a ++ y :: c) (n + 1) x = a ++ y :: x :: c := by
  subst h
  unfold ins
  rw [List.take_length_add_append, List.drop_length_add_append]
  simp

theorem flatten_mid {α : Type} (a : List (List α)) (b : List α) (c : List (List α)) : (a ++ b :: c).flatten = a.flatten ++ b ++ c.flatten := by simp

theorem perm_mid (k : Nat) (a u b rest f : List Nat) : ((k :: (a ++ u ++ b)) ++ rest ++ f).Perm (u ++ (k :: (a ++ b) ++ rest) ++ f) := by
  refine List.Perm.append_right f ?_
  rw [← List.append_assoc]
  refine List.Perm.append_right rest ?_
  refine List.Perm.trans (List.Perm.cons k (List.Perm.append_right b (List.perm_append_comm))) ?_
  simp only [List.append_assoc]
  exact (List.perm_middle).symm

theorem insert_spec : ∀ (f h : Nat) (S : TS) (k : Nat) (l : List ByteArray) (us rest : List Nat) (i : Nat) (line : ByteArray), h < f → Rep S.nodes h k l us →
    (∃ x, S.nodes[k]? = some x ∧ x.size ≤ 8) → Part (us ++ rest) S → S.nodes.length + h + 1 < cap → l.length + 1 < cap → i ≤ l.length →
    ∃ o S', TS.insert f S k i line = some (o, S') ∧ Grow S S' (h + 1) ∧ (∀ j, j ∈ rest → S'.nodes[j]? = S.nodes[j]?) ∧
      ((o = none ∧ ∃ us', Rep S'.nodes h k (ins l i line) us' ∧ Part (us' ++ rest) S' ∧ ∃ x x', S.nodes[k]? = some x ∧ S'.nodes[k]? = some x' ∧ x.size ≤ x'.size ∧ x'.size ≤ 8) ∨
       ∃ k2 l1 l2 us1 us2, o = some k2 ∧ ins l i line = l1 ++ l2 ∧ Rep S'.nodes h k l1 us1 ∧ Rep S'.nodes h k2 l2 us2 ∧ Fit S'.nodes k ∧ Fit S'.nodes k2 ∧ Part (us1 ++ us2 ++ rest) S')
  | 0, _, _, _, _, _, _, _, _, hf, _, _, _, _, _, _ => absurd hf (Nat.not_lt_zero _)
  | f + 1, 0, S, k, l, us, rest, i, line, _, hr, hsz, hp, hc, hl, hi => by
    obtain ⟨rfl, hx⟩ := hr
    obtain ⟨x, hx2, hs8⟩ := hsz
    rw [hx] at hx2; cases hx2
    have hlt := (List.getElem?_eq_some_iff.1 hx).1
    simp only [ND.size, List.length_nil, Nat.add_zero] at hs8
    let y : ND := ⟨ins l i line, [], l.length⟩
    have hy : (S.setNode k y).nodes[k]? = some y := set_get S k y hlt
    have hil := ins_length l i line hi
    obtain ⟨xa, xa', ha1, ha2, ha3, ha4, ha5⟩ := sum_spec (S := S.setNode k y) (h := 0) (k := k) (l := ins l i line) (us := [k]) ⟨rfl, _, hy⟩ (by simp) (by omega)
    rw [hy] at ha1; cases ha1
    have hxa : ((S.setNode k y).setNode k xa').nodes[k]? = some xa' := set_get _ _ _ (by simpa [TS.setNode] using hlt)
    have hsize : xa'.size = l.length + 1 := by simp only [ND.size, ha4, ha5]; simp [y, hil]
    obtain ⟨o, S', h1, h2, h3, h4⟩ := split_spec (S := (S.setNode k y).setNode k xa') (rest := rest) ha3 hxa (by omega) ((hp.set k y).set k xa') (by simp [TS.setNode]; omega) (by omega)
    have hk : ∀ j, j ∈ rest → ((S.setNode k y).setNode k xa').nodes[j]? = S.nodes[j]? := fun j hj => by
      have : j ≠ k := fun e => apart hp (by simp) hj e.symm
      rw [set_other _ _ this, set_other _ _ this]
    refine ⟨o, S', ?_, ((Grow.set S k y).trans ((Grow.set _ k xa').trans h2)).mono (by omega), fun j hj => (h3 j hj).trans (hk j hj), ?_⟩
    · simp only [TS.insert, hx, if_true]
      rw [if_pos ⟨hi, by omega⟩, insertIdx_ins _ _ _ hi]
      show (match (S.setNode k y).sum k with | none => none | some S2 => S2.split k) = _
      rw [ha2]; exact h1
    · rcases h4 with ⟨rfl, rfl, h8⟩ | ⟨k2, l1, l2, us1, us2, g1, _, g2, g3, g4, g5, g6, g7⟩
      · exact .inl ⟨rfl, [k], ha3, (hp.set k y).set k xa', _, xa', hx, hxa, by rw [hsize]; simp [ND.size], h8⟩
      · exact .inr ⟨k2, l1, l2, us1, us2, g1, g2, g3, g4, g5, g6, g7⟩
  | f + 1, h + 1, S, k, l, us, rest, i, line, hf, hr, hsz, hp, hc, hl, hi => by
    obtain ⟨kids, ls, uss, hx, hne0, ha, rfl, rfl⟩ := hr
    obtain ⟨x, hx2, hs8⟩ := hsz
    rw [hx] at hx2; cases hx2
    have hlt := (List.getElem?_eq_some_iff.1 hx).1
    simp only [ND.size, List.length_nil, Nat.zero_add] at hs8
    obtain ⟨n, j, hfind, hn, hij, hjle, _⟩ := findGo_spec 0 i ha hne0 hi
    rw [Nat.zero_add] at hfind
    obtain ⟨kid, l0, u0, ek, el, eu, ⟨hrk, hfk⟩, hA, hB⟩ := ha.mid n hn
    have hlen := ha.lengths
    have hkid : kids[n]? = some kid := by rw [ek, List.getElem?_append_right (by simp [List.length_take]; omega)]; simp [List.length_take, Nat.min_eq_left (Nat.le_of_lt hn)]
    have hl0 : ls[n]? = some l0 := by rw [el, List.getElem?_append_right (by simp [List.length_take]; omega)]; simp [List.length_take, Nat.min_eq_left (show n ≤ ls.length by omega)]
    have hj := hjle l0 hl0
    have elf : ls.flatten = (ls.take n).flatten ++ l0 ++ (ls.drop (n + 1)).flatten := by rw [← flatten_mid, ← el]
    have euf : uss.flatten = (uss.take n).flatten ++ u0 ++ (uss.drop (n + 1)).flatten := by rw [← flatten_mid, ← eu]
    generalize hkA : kids.take n = kA at *
    generalize hkB : kids.drop (n + 1) = kB at *
    generalize hlA : ls.take n = lA at *
    generalize hlB : ls.drop (n + 1) = lB at *
    generalize huA : uss.take n = uA at *
    generalize huB : uss.drop (n + 1) = uB at *
    have hkAlen : kA.length = n := by rw [← hkA, List.length_take]; omega
    have hlens : lA.flatten.length + l0.length + lB.flatten.length = ls.flatten.length := by rw [elf]; simp; omega
    have hpk : Part (u0 ++ (k :: (uA.flatten ++ uB.flatten) ++ rest)) S := by
      refine List.Perm.trans ?_ hp
      rw [euf]
      exact (perm_mid k uA.flatten u0 uB.flatten rest S.free).symm
    have hfk' := hfk
    obtain ⟨xk, hxk, hx4, hx8⟩ := hfk
    obtain ⟨o, S', h1, h2, h3, h4⟩ := insert_spec f h S kid l0 u0 _ j line (by omega) hrk ⟨xk, hxk, hx8⟩ hpk (by omega) (by omega) hj
    have hkS' : S'.nodes[k]? = some ⟨[], kids, ls.flatten.length⟩ := by rw [h3 k (by simp)]; exact hx
    have hltS' := (List.getElem?_eq_some_iff.1 hkS').1
    have hA' : All3 (fun k l u => Rep S'.nodes h k l u ∧ Fit S'.nodes k) kA lA uA := hA.congr fun j hj => h3 j (by simp only [List.mem_append, List.mem_cons]; exact .inl (.inr (.inl hj)))
    have hB' : All3 (fun k l u => Rep S'.nodes h k l u ∧ Fit S'.nodes k) kB lB uB := hB.congr fun j hj => h3 j (by simp only [List.mem_append, List.mem_cons]; exact .inl (.inr (.inr hj)))
    have hins : ins ls.flatten i line = lA.flatten ++ ins l0 j line ++ lB.flatten := by rw [elf, hij]; exact ins_mid _ _ _ _ _ hj
    have hrest : ∀ j, j ∈ rest → S'.nodes[j]? = S.nodes[j]? := fun j hj => h3 j (by simp only [List.mem_append]; exact .inr hj)
    -- what the node holds behind the kid's insertion
    have key : ∀ (S1 : TS) (kids' : List Nat) (ls' : List (List ByteArray)) (uss' : List (List Nat)) (c : Nat), S1.nodes[k]? = some ⟨[], kids', c⟩ → kids.length ≤ kids'.length → kids'.length ≤ 9 →
        All3 (fun k l u => Rep S1.nodes h k l u ∧ Fit S1.nodes k) kids' ls' uss' → ls'.flatten = ins ls.flatten i line → Part (k :: uss'.flatten ++ rest) S1 → Grow S S1 (h + 1) →
        (∀ j, j ∈ rest → S1.nodes[j]? = S.nodes[j]?) →
        ∃ o S2, (match S1.sum k with | none => none | some S2 => S2.split k) = some (o, S2) ∧ Grow S S2 (h + 1 + 1) ∧ (∀ j, j ∈ rest → S2.nodes[j]? = S.nodes[j]?) ∧
          ((o = none ∧ ∃ us', Rep S2.nodes (h + 1) k (ins ls.flatten i line) us' ∧ Part (us' ++ rest) S2 ∧ ∃ x x', S.nodes[k]? = some x ∧ S2.nodes[k]? = some x' ∧ x.size ≤ x'.size ∧ x'.size ≤ 8) ∨
           ∃ k2 l1 l2 us1 us2, o = some k2 ∧ ins ls.flatten i line = l1 ++ l2 ∧ Rep S2.nodes (h + 1) k l1 us1 ∧ Rep S2.nodes (h + 1) k2 l2 us2 ∧ Fit S2.nodes k ∧ Fit S2.nodes k2 ∧ Part (us1 ++ us2 ++ rest) S2) := by
      intro S1 kids' ls' uss' c q1 q2 q3 q4 q5 q6 q7 q8
      have hkne : kids' ≠ [] := fun e => by rw [e] at q2; simp at q2; exact hne0 q2
      have hil := ins_length ls.flatten i line hi
      obtain ⟨xa, xa', ha1, ha2, ha3, ha4, ha5⟩ := sum_spec (S := S1) (h := h + 1) (k := k) (l := ins ls.flatten i line) (us := k :: uss'.flatten) ⟨kids', ls', uss', c, q1, hkne, q4, q5.symm, rfl⟩ (nodup_left q6) (by omega)
      rw [q1] at ha1; cases ha1
      have hxa : (S1.setNode k xa').nodes[k]? = some xa' := set_get _ _ _ (List.getElem?_eq_some_iff.1 q1).1
      have hsize : xa'.size = kids'.length := by simp only [ND.size, ha4, ha5]; simp
      have hq7 := q7.le
      obtain ⟨o, S2, g1, g2, g3, g4⟩ := split_spec (S := S1.setNode k xa') (rest := rest) ha3 hxa (by omega) (q6.set k xa') (by simp [TS.setNode]; omega) (by omega)
      have hk : ∀ j, j ∈ rest → (S1.setNode k xa').nodes[j]? = S.nodes[j]? := fun j hj => by
        have : j ≠ k := fun e => apart hp (by simp) hj e.symm
        rw [set_other _ _ this]; exact q8 j hj
      refine ⟨o, S2, by rw [ha2]; exact g1, (q7.trans ((Grow.set _ k xa').trans g2)).mono (by omega), fun j hj => (g3 j hj).trans (hk j hj), ?_⟩
      rcases g4 with ⟨rfl, rfl, h8⟩ | ⟨k2, l1, l2, us1, us2, e1, _, e2, e3, e4, e5, e6, e7⟩
      · exact .inl ⟨rfl, _, ha3, q6.set k xa', _, xa', hx, hxa, by rw [hsize]; simpa [ND.size] using q2, h8⟩
      · exact .inr ⟨k2, l1, l2, us1, us2, e1, e2, e3, e4, e5, e6, e7⟩
    rcases h4 with ⟨rfl, u', hr', hp', xo, x', hxo, hx', hle1, hle2⟩ | ⟨k2, l1, l2, u1, u2, rfl, e12, hr1, hr2, hf1, hf2, hp'⟩
    · rw [hxk] at hxo; cases hxo
      obtain ⟨o, S2, g1, g2, g3, g4⟩ := key S' (kA ++ kid :: kB) (lA ++ ins l0 j line :: lB) (uA ++ u' :: uB) ls.flatten.length (by rw [hkS', ← ek]) (by rw [← ek]; omega) (by rw [← ek]; omega)
        (hA'.append ⟨⟨hr', x', hx', by omega, hle2⟩, hB'⟩) (by rw [flatten_mid, hins])
        (by refine List.Perm.trans ?_ hp'; rw [flatten_mid]; exact perm_mid k uA.flatten u' uB.flatten rest S'.free) h2 hrest
      refine ⟨o, S2, ?_, g2, g3, g4⟩
      simp only [TS.insert, hx, if_neg hne0, hfind, hkid, h1]
      exact g1
    · let y : ND := ⟨[], kA ++ kid :: k2 :: kB, ls.flatten.length⟩
      have hdis : ∀ j, j ∈ uA.flatten ∨ j ∈ uB.flatten ∨ j ∈ u1 ∨ j ∈ u2 ∨ j ∈ rest → j ≠ k := by
        intro j hj e
        subst e
        have hnd := hp'.nodupA
        rw [List.nodup_append] at hnd
        rcases hj with hj | hj | hj | hj | hj
        · have := (List.nodup_append.1 hnd.2.1).1; rw [List.nodup_cons] at this; exact this.1 (List.mem_append.2 (.inl hj))
        · have := (List.nodup_append.1 hnd.2.1).1; rw [List.nodup_cons] at this; exact this.1 (List.mem_append.2 (.inr hj))
        · exact hnd.2.2 j (List.mem_append.2 (.inl hj)) j (by simp) rfl
        · exact hnd.2.2 j (List.mem_append.2 (.inr hj)) j (by simp) rfl
        · exact (List.nodup_append.1 hnd.2.1).2.2 j (by simp) j hj rfl
      have hset : ∀ j, j ≠ k → (S'.setNode k y).nodes[j]? = S'.nodes[j]? := fun j hj => set_other _ _ hj
      have hfit : ∀ q, q ≠ k → Fit S'.nodes q → Fit (S'.setNode k y).nodes q := fun q hq ⟨x, hx, hh⟩ => ⟨x, by rw [hset q hq]; exact hx, hh⟩
      obtain ⟨o, S2, g1, g2, g3, g4⟩ := key (S'.setNode k y) (kA ++ kid :: k2 :: kB) (lA ++ l1 :: l2 :: lB) (uA ++ u1 :: u2 :: uB) ls.flatten.length (set_get _ _ _ hltS')
        (by rw [ek]; simp) (by have := congrArg List.length ek; simp at this ⊢; omega)
        ((hA'.congr fun j hj => hset j (hdis j (.inl hj))).append
          ⟨⟨hr1.congr fun j hj => hset j (hdis j (.inr (.inr (.inl hj)))), hfit _ (hdis kid (.inr (.inr (.inl hr1.root_mem)))) hf1⟩,
           ⟨hr2.congr fun j hj => hset j (hdis j (.inr (.inr (.inr (.inl hj))))), hfit _ (hdis k2 (.inr (.inr (.inr (.inl hr2.root_mem))))) hf2⟩,
           hB'.congr fun j hj => hset j (hdis j (.inr (.inl hj)))⟩)
        (by rw [hins, e12]; simp)
        (by
          refine Part.set ?_ k y
          refine List.Perm.trans ?_ hp'
          have : (uA ++ u1 :: u2 :: uB).flatten = uA.flatten ++ (u1 ++ u2) ++ uB.flatten := by simp
          rw [this]
          exact perm_mid k uA.flatten (u1 ++ u2) uB.flatten rest S'.free)
        ((h2.trans (Grow.set S' k y)).mono (by omega)) (fun j hj => (hset j (hdis j (.inr (.inr (.inr (.inr hj)))))).trans (hrest j hj))
      refine ⟨o, S2, ?_, g2, g3, g4⟩
      simp only [TS.insert, hx, if_neg hne0, hfind, hkid, h1, hkS']
      rw [if_pos ⟨by omega, by unfold cap; omega⟩, insertIdx_ins _ _ _ (by omega), ek, ins_after kA kB kid k2 n hkAlen]
      exact g1

end Go.Em

namespace Go.Em

theorem perm3 (a b c d : List Nat) (h : (a ++ b).Perm (c ++ d)) (rest f : List Nat) : (a ++ b ++ rest ++ f).Perm (c ++ d ++ rest ++ f) :=
  (h.append_right rest).append_right f

/-- What the move of the last one of a node to the front of its right neighbour does. -/
theorem move_back_spec {S : TS} {h a b la lb ua ub rest} {xa xb : ND} (ra : Rep S.nodes h a la ua) (rb : Rep S.nodes h b lb ub) (hxa : S.nodes[a]? = some xa) (hxb : S.nodes[b]? = some xb)
    (hp : Part (ua ++ ub ++ rest) S) (hsa : 2 ≤ xa.size) (hsb : xb.size ≤ 8) (hl : la.length + lb.length < cap) :
    ∃ S' la' lb' ua' ub' xa' xb', S.move a b true = some S' ∧ la ++ lb = la' ++ lb' ∧ Rep S'.nodes h a la' ua' ∧ Rep S'.nodes h b lb' ub' ∧ Part (ua' ++ ub' ++ rest) S' ∧
      S'.nodes[a]? = some xa' ∧ S'.nodes[b]? = some xb' ∧ xa'.size + 1 = xa.size ∧ xb'.size = xb.size + 1 ∧ (∀ j, j ∈ rest → S'.nodes[j]? = S.nodes[j]?) ∧
      S'.nodes.length = S.nodes.length ∧ S'.root = S.root ∧ S'.free = S.free := by
  have hma := ra.root_mem
  have hmb := rb.root_mem
  have hnd := hp.nodupA
  rw [List.nodup_append] at hnd
  have hndab := List.nodup_append.1 hnd.1
  have hab : a ≠ b := hndab.2.2 a hma b hmb
  have hra : ∀ j, j ∈ rest → j ≠ a := fun j hj e => hnd.2.2 a (List.mem_append.2 (.inl hma)) j hj e.symm
  have hrb : ∀ j, j ∈ rest → j ≠ b := fun j hj e => hnd.2.2 b (List.mem_append.2 (.inr hmb)) j hj e.symm
  have lta := (List.getElem?_eq_some_iff.1 hxa).1
  have ltb := (List.getElem?_eq_some_iff.1 hxb).1
  cases h with
  | zero =>
    obtain ⟨rfl, ea⟩ := ra
    obtain ⟨rfl, eb⟩ := rb
    rw [ea] at hxa; cases hxa
    rw [eb] at hxb; cases hxb
    simp only [ND.size, List.length_nil, Nat.add_zero] at hsa hsb
    obtain ⟨z, hz⟩ : ∃ z, la.getLast? = some z := by cases hg : la.getLast? with | some z => exact ⟨z, rfl⟩ | none => simp at hg; subst hg; simp at hsa
    have hla := getLast_split hz
    have hlal : la.dropLast.length + 1 = la.length := by simp; omega
    have hcat : la ++ lb = la.dropLast ++ z :: lb := by
      conv => lhs; rw [hla]
      simp
    let na : ND := ⟨la.dropLast, [], la.length⟩
    let nb : ND := ⟨z :: lb, [], lb.length⟩
    let S1 := (S.setNode a na).setNode b nb
    have h1a : S1.nodes[a]? = some na := by rw [set_other _ _ hab]; exact set_get _ _ _ lta
    have h1b : S1.nodes[b]? = some nb := set_get _ _ _ (by simpa [TS.setNode] using ltb)
    obtain ⟨x1, x1', f1, f2, f3, f4, f5⟩ := sum_spec (S := S1) (h := 0) (k := a) (l := la.dropLast) (us := [a]) ⟨rfl, _, h1a⟩ (by simp) (by omega)
    rw [h1a] at f1; cases f1
    have h2b : (S1.setNode a x1').nodes[b]? = some nb := by rw [set_other _ _ hab.symm]; exact h1b
    obtain ⟨x2, x2', g1, g2, g3, g4, g5⟩ := sum_spec (S := S1.setNode a x1') (h := 0) (k := b) (l := z :: lb) (us := [b]) ⟨rfl, _, h2b⟩ (by simp) (by simp; omega)
    rw [h2b] at g1; cases g1
    have lta1 : a < S1.nodes.length := by simpa [S1, TS.setNode] using lta
    have ltb1 : b < (S1.setNode a x1').nodes.length := by simpa [S1, TS.setNode] using ltb
    refine ⟨(S1.setNode a x1').setNode b x2', la.dropLast, z :: lb, [a], [b], x1', x2', ?_, hcat, ?_, g3, ?_, ?_, set_get _ _ _ ltb1, ?_, ?_, fun j hj => ?_, ?_, rfl, rfl⟩
    · simp only [TS.move, ea, eb]
      rw [if_neg (by rintro (h | h | h); exact hab h; all_goals (simp [cap] at h; try omega))]
      simp only [if_true, hz]
      show (match S1.sum a with | none => none | some S2 => S2.sum b) = _
      rw [f2]; exact g2
    · exact f3.congr fun j hj => set_other _ _ (by simp at hj; omega)
    · exact Part.set (Part.set (Part.set (Part.set hp _ _) _ _) _ _) _ _
    · rw [set_other _ _ hab]; exact set_get _ _ _ lta1
    · simp only [ND.size, f4, f5]; simp only [na, List.length_nil]; omega
    · simp only [ND.size, g4, g5]; simp [nb]
    · rw [set_other _ _ (hrb j hj), set_other _ _ (hra j hj)]; simp only [S1]; rw [set_other _ _ (hrb j hj), set_other _ _ (hra j hj)]
    · simp [S1, TS.setNode]
  | succ h =>
    obtain ⟨ka, lsa, usa, ea, hna, aa, rfl, rfl⟩ := ra
    obtain ⟨kb, lsb, usb, eb, hnb, ab, rfl, rfl⟩ := rb
    rw [ea] at hxa; cases hxa
    rw [eb] at hxb; cases hxb
    simp only [ND.size, List.length_nil, Nat.zero_add] at hsa hsb
    obtain ⟨z, hz⟩ : ∃ z, ka.getLast? = some z := by cases hg : ka.getLast? with | some z => exact ⟨z, rfl⟩ | none => simp at hg; exact absurd hg hna
    have hka := getLast_split hz
    have hlen := aa.lengths
    obtain ⟨k0, l0, u0, ek, el, eu, hR, hA, hB⟩ := aa.mid (ka.length - 1) (by omega)
    have hd1 : ka.drop (ka.length - 1 + 1) = [] := List.drop_eq_nil_of_le (by omega)
    have hd2 : lsa.drop (ka.length - 1 + 1) = [] := List.drop_eq_nil_of_le (by omega)
    have hd3 : usa.drop (ka.length - 1 + 1) = [] := List.drop_eq_nil_of_le (by omega)
    rw [hd1] at ek; rw [hd2] at el; rw [hd3] at eu
    have hdl : ka.take (ka.length - 1) = ka.dropLast := (List.dropLast_eq_take).symm
    rw [hdl] at ek hA
    have hk0 : k0 = z := by
      rw [ek] at hz; simpa using hz
    subst hk0
    generalize lsa.take (ka.length - 1) = lA at *
    generalize usa.take (ka.length - 1) = uA at *
    subst el; subst eu
    have hdl2 : ka.dropLast.length + 1 = ka.length := by simp; omega
    have hlsum : (lA ++ [l0]).flatten.length = lA.flatten.length + l0.length := by simp
    let na : ND := ⟨[], ka.dropLast, (lA ++ [l0]).flatten.length⟩
    let nb : ND := ⟨[], k0 :: kb, lsb.flatten.length⟩
    let S1 := (S.setNode a na).setNode b nb
    have h1a : S1.nodes[a]? = some na := by rw [set_other _ _ hab]; exact set_get _ _ _ lta
    have h1b : S1.nodes[b]? = some nb := set_get _ _ _ (by simpa [TS.setNode] using ltb)
    have hndA := hndab.1
    have hndB := hndab.2.1
    rw [List.nodup_cons] at hndA hndB
    have hflat : (uA ++ [u0]).flatten = uA.flatten ++ u0 := by simp
    have hna2 : ∀ j, j ∈ uA.flatten ∨ j ∈ u0 ∨ j ∈ usb.flatten → j ≠ a ∧ j ≠ b := by
      intro j hj
      rcases hj with hj | hj | hj
      · exact ⟨fun e => hndA.1 (by rw [hflat, ← e]; exact List.mem_append.2 (.inl hj)), fun e => hndab.2.2 j (List.mem_cons.2 (.inr (by rw [hflat]; exact List.mem_append.2 (.inl hj)))) b (by simp) e⟩
      · exact ⟨fun e => hndA.1 (by rw [hflat, ← e]; exact List.mem_append.2 (.inr hj)), fun e => hndab.2.2 j (List.mem_cons.2 (.inr (by rw [hflat]; exact List.mem_append.2 (.inr hj)))) b (by simp) e⟩
      · exact ⟨fun e => hndab.2.2 a (by simp) j (List.mem_cons.2 (.inr hj)) e.symm, fun e => hndB.1 (e ▸ hj)⟩
    have keep : ∀ j, j ≠ a → j ≠ b → S1.nodes[j]? = S.nodes[j]? := fun j h1 h2 => by simp only [S1]; rw [set_other _ _ h2, set_other _ _ h1]
    have hfit : ∀ q, q ≠ a → q ≠ b → Fit S.nodes q → Fit S1.nodes q := fun q h1 h2 ⟨x, hx, hh⟩ => ⟨x, by rw [keep q h1 h2]; exact hx, hh⟩
    have hA1 := hA.congr (N' := S1.nodes) fun j hj => keep j (hna2 j (.inl hj)).1 (hna2 j (.inl hj)).2
    have hB1 := ab.congr (N' := S1.nodes) fun j hj => keep j (hna2 j (.inr (.inr hj))).1 (hna2 j (.inr (.inr hj))).2
    have hz1 : Rep S1.nodes h k0 l0 u0 := hR.1.congr fun j hj => keep j (hna2 j (.inr (.inl hj))).1 (hna2 j (.inr (.inl hj))).2
    have hzne := hna2 k0 (.inr (.inl hR.1.root_mem))
    have hz2 : Fit S1.nodes k0 := hfit k0 hzne.1 hzne.2 hR.2
    have hnd0 := hndA.2
    rw [hflat, List.nodup_append] at hnd0
    obtain ⟨x1, x1', f1, f2, f3, f4, f5⟩ := sum_spec (S := S1) (h := h + 1) (k := a) (l := lA.flatten) (us := a :: uA.flatten)
      ⟨ka.dropLast, lA, uA, _, h1a, fun e => by rw [e] at hdl2; simp at hdl2; omega, hA1, rfl, rfl⟩ (List.nodup_cons.2 ⟨fun hm => (hna2 a (.inl hm)).1 rfl, hnd0.1⟩) (by omega)
    rw [h1a] at f1; cases f1
    have h2b : (S1.setNode a x1').nodes[b]? = some nb := by rw [set_other _ _ hab.symm]; exact h1b
    have keep2 : ∀ j, j ≠ a → (S1.setNode a x1').nodes[j]? = S1.nodes[j]? := fun j h1 => set_other _ _ h1
    have hB2 : All3 (fun k l u => Rep (S1.setNode a x1').nodes h k l u ∧ Fit (S1.setNode a x1').nodes k) (k0 :: kb) (l0 :: lsb) (u0 :: usb) :=
      ⟨⟨hz1.congr fun j hj => keep2 j (hna2 j (.inr (.inl hj))).1, by obtain ⟨x, hx, hh⟩ := hz2; exact ⟨x, by rw [keep2 k0 hzne.1]; exact hx, hh⟩⟩,
       hB1.congr fun j hj => keep2 j (hna2 j (.inr (.inr hj))).1⟩
    have hndb : (b :: (u0 :: usb).flatten).Nodup := by
      rw [List.nodup_cons, List.flatten_cons]
      refine ⟨fun hm => ?_, List.nodup_append.2 ⟨hnd0.2.1, hndB.2, fun x hx y hy => hndab.2.2 x (List.mem_cons.2 (.inr (by rw [hflat]; exact List.mem_append.2 (.inr hx)))) y (List.mem_cons.2 (.inr hy))⟩⟩
      rcases List.mem_append.1 hm with hm | hm
      · exact (hna2 b (.inr (.inl hm))).2 rfl
      · exact hndB.1 hm
    obtain ⟨x2, x2', g1, g2, g3, g4, g5⟩ := sum_spec (S := S1.setNode a x1') (h := h + 1) (k := b) (l := (l0 :: lsb).flatten) (us := b :: (u0 :: usb).flatten)
      ⟨k0 :: kb, l0 :: lsb, u0 :: usb, _, h2b, by simp, hB2, rfl, rfl⟩ hndb (by rw [List.flatten_cons, List.length_append]; omega)
    rw [h2b] at g1; cases g1
    have lta1 : a < S1.nodes.length := by simpa [S1, TS.setNode] using lta
    have ltb1 : b < (S1.setNode a x1').nodes.length := by simpa [S1, TS.setNode] using ltb
    refine ⟨(S1.setNode a x1').setNode b x2', lA.flatten, (l0 :: lsb).flatten, a :: uA.flatten, b :: (u0 :: usb).flatten, x1', x2', ?_, by simp, ?_, g3, ?_, ?_, set_get _ _ _ ltb1, ?_, ?_, fun j hj => ?_, ?_, rfl, rfl⟩
    · simp only [TS.move, ea, eb]
      rw [if_neg (by rintro (h | h | h); exact hab h; all_goals (simp [cap] at h; try omega))]
      simp only [if_true, if_neg hna, hz]
      show (match S1.sum a with | none => none | some S2 => S2.sum b) = _
      rw [f2]; exact g2
    · exact f3.congr fun j hj => set_other _ _ (by
        rcases List.mem_cons.1 hj with e | hj
        · rw [e]; exact hab
        · exact (hna2 j (.inl hj)).2)
    · refine Part.set (Part.set (Part.set (Part.set (hp.perm (List.Perm.append_right rest ?_)) _ _) _ _) _ _) _ _
      simp only [hflat, List.flatten_cons, List.cons_append]
      refine List.Perm.cons a ?_
      rw [List.append_assoc]
      refine List.Perm.append_left _ ?_
      rw [← List.cons_append]
      exact List.perm_middle.symm
    · rw [set_other _ _ hab]; exact set_get _ _ _ lta1
    · simp only [ND.size, f4, f5]; simp only [na, List.length_nil]; omega
    · simp only [ND.size, g4, g5]; simp [nb]
    · rw [set_other _ _ (hrb j hj), set_other _ _ (hra j hj)]; exact keep j (hra j hj) (hrb j hj)
    · simp [S1, TS.setNode]

/-- What the move of the first one of a node to the end of its left neighbour does. -/
theorem move_fore_spec {S : TS} {h a b la lb ua ub rest} {xa xb : ND} (ra : Rep S.nodes h a la ua) (rb : Rep S.nodes h b lb ub) (hxa : S.nodes[a]? = some xa) (hxb : S.nodes[b]? = some xb)
    (hp : Part (ua ++ ub ++ rest) S) (hsb : 2 ≤ xb.size) (hsa : xa.size ≤ 8) (hl : la.length + lb.length < cap) :
    ∃ S' la' lb' ua' ub' xa' xb', S.move b a false = some S' ∧ la ++ lb = la' ++ lb' ∧ Rep S'.nodes h a la' ua' ∧ Rep S'.nodes h b lb' ub' ∧ Part (ua' ++ ub' ++ rest) S' ∧
      S'.nodes[a]? = some xa' ∧ S'.nodes[b]? = some xb' ∧ xb'.size + 1 = xb.size ∧ xa'.size = xa.size + 1 ∧ (∀ j, j ∈ rest → S'.nodes[j]? = S.nodes[j]?) ∧
      S'.nodes.length = S.nodes.length ∧ S'.root = S.root ∧ S'.free = S.free := by
  have hma := ra.root_mem
  have hmb := rb.root_mem
  have hnd := hp.nodupA
  rw [List.nodup_append] at hnd
  have hndab := List.nodup_append.1 hnd.1
  have hab : a ≠ b := hndab.2.2 a hma b hmb
  have hra : ∀ j, j ∈ rest → j ≠ a := fun j hj e => hnd.2.2 a (List.mem_append.2 (.inl hma)) j hj e.symm
  have hrb : ∀ j, j ∈ rest → j ≠ b := fun j hj e => hnd.2.2 b (List.mem_append.2 (.inr hmb)) j hj e.symm
  have lta := (List.getElem?_eq_some_iff.1 hxa).1
  have ltb := (List.getElem?_eq_some_iff.1 hxb).1
  cases h with
  | zero =>
    obtain ⟨rfl, ea⟩ := ra
    obtain ⟨rfl, eb⟩ := rb
    rw [ea] at hxa; cases hxa
    rw [eb] at hxb; cases hxb
    simp only [ND.size, List.length_nil, Nat.add_zero] at hsa hsb
    match lb, hsb, hl, eb with
    | z :: zs, hsb, hl, eb =>
    simp only [List.length_cons] at hsb hl
    let nb : ND := ⟨zs, [], (z :: zs).length⟩
    let na : ND := ⟨la ++ [z], [], la.length⟩
    let S1 := (S.setNode b nb).setNode a na
    have h1b : S1.nodes[b]? = some nb := by rw [set_other _ _ hab.symm]; exact set_get _ _ _ ltb
    have h1a : S1.nodes[a]? = some na := set_get _ _ _ (by simpa [TS.setNode] using lta)
    obtain ⟨x1, x1', f1, f2, f3, f4, f5⟩ := sum_spec (S := S1) (h := 0) (k := b) (l := zs) (us := [b]) ⟨rfl, _, h1b⟩ (by simp) (by omega)
    rw [h1b] at f1; cases f1
    have h2a : (S1.setNode b x1').nodes[a]? = some na := by rw [set_other _ _ hab]; exact h1a
    obtain ⟨x2, x2', g1, g2, g3, g4, g5⟩ := sum_spec (S := S1.setNode b x1') (h := 0) (k := a) (l := la ++ [z]) (us := [a]) ⟨rfl, _, h2a⟩ (by simp) (by simp; omega)
    rw [h2a] at g1; cases g1
    have ltb1 : b < S1.nodes.length := by simpa [S1, TS.setNode] using ltb
    have lta1 : a < (S1.setNode b x1').nodes.length := by simpa [S1, TS.setNode] using lta
    refine ⟨(S1.setNode b x1').setNode a x2', la ++ [z], zs, [a], [b], x2', x1', ?_, by simp, g3, ?_, ?_, set_get _ _ _ lta1, ?_, ?_, ?_, fun j hj => ?_, ?_, rfl, rfl⟩
    · simp only [TS.move, ea, eb]
      rw [if_neg (by rintro (h | h | h); exact hab h.symm; all_goals (simp [cap] at h; try omega))]
      simp only [if_true, Bool.false_eq_true, if_false]
      show (match S1.sum b with | none => none | some S2 => S2.sum a) = _
      rw [f2]; exact g2
    · exact f3.congr fun j hj => set_other _ _ (by simp at hj; omega)
    · exact Part.set (Part.set (Part.set (Part.set hp _ _) _ _) _ _) _ _
    · rw [set_other _ _ hab.symm]; exact set_get _ _ _ ltb1
    · simp only [ND.size, f4, f5]; simp [nb]
    · simp only [ND.size, g4, g5]; simp [na]
    · rw [set_other _ _ (hra j hj), set_other _ _ (hrb j hj)]; simp only [S1]; rw [set_other _ _ (hra j hj), set_other _ _ (hrb j hj)]
    · simp [S1, TS.setNode]
  | succ h =>
    obtain ⟨ka, lsa, usa, ea, hna, aa, rfl, rfl⟩ := ra
    obtain ⟨kb, lsb, usb, eb, hnb, ab, rfl, rfl⟩ := rb
    rw [ea] at hxa; cases hxa
    rw [eb] at hxb; cases hxb
    simp only [ND.size, List.length_nil, Nat.zero_add] at hsa hsb
    match kb, lsb, usb, ab, hnb, hsb, eb with
    | k0 :: ks, l0 :: ls, u0 :: us, ab, hnb, hsb, eb =>
    obtain ⟨hR, hB⟩ := ab
    simp only [List.length_cons] at hsb
    have hlsum : (l0 :: ls).flatten.length = l0.length + ls.flatten.length := by simp
    let nb : ND := ⟨[], ks, (l0 :: ls).flatten.length⟩
    let na : ND := ⟨[], ka ++ [k0], lsa.flatten.length⟩
    let S1 := (S.setNode b nb).setNode a na
    have h1b : S1.nodes[b]? = some nb := by rw [set_other _ _ hab.symm]; exact set_get _ _ _ ltb
    have h1a : S1.nodes[a]? = some na := set_get _ _ _ (by simpa [TS.setNode] using lta)
    have hndA := hndab.1
    have hndB := hndab.2.1
    rw [List.nodup_cons] at hndA hndB
    have hflat : (u0 :: us).flatten = u0 ++ us.flatten := by simp
    have hna2 : ∀ j, j ∈ usa.flatten ∨ j ∈ u0 ∨ j ∈ us.flatten → j ≠ a ∧ j ≠ b := by
      intro j hj
      rcases hj with hj | hj | hj
      · exact ⟨fun e => hndA.1 (e ▸ hj), fun e => hndab.2.2 j (List.mem_cons.2 (.inr hj)) b (by simp) e⟩
      · exact ⟨fun e => hndab.2.2 a (by simp) j (List.mem_cons.2 (.inr (by rw [hflat]; exact List.mem_append.2 (.inl hj)))) e.symm, fun e => hndB.1 (by rw [hflat, ← e]; exact List.mem_append.2 (.inl hj))⟩
      · exact ⟨fun e => hndab.2.2 a (by simp) j (List.mem_cons.2 (.inr (by rw [hflat]; exact List.mem_append.2 (.inr hj)))) e.symm, fun e => hndB.1 (by rw [hflat, ← e]; exact List.mem_append.2 (.inr hj))⟩
    have keep : ∀ j, j ≠ a → j ≠ b → S1.nodes[j]? = S.nodes[j]? := fun j h1 h2 => by simp only [S1]; rw [set_other _ _ h1, set_other _ _ h2]
    have hfit : ∀ q, q ≠ a → q ≠ b → Fit S.nodes q → Fit S1.nodes q := fun q h1 h2 ⟨x, hx, hh⟩ => ⟨x, by rw [keep q h1 h2]; exact hx, hh⟩
    have hA1 := aa.congr (N' := S1.nodes) fun j hj => keep j (hna2 j (.inl hj)).1 (hna2 j (.inl hj)).2
    have hB1 := hB.congr (N' := S1.nodes) fun j hj => keep j (hna2 j (.inr (.inr hj))).1 (hna2 j (.inr (.inr hj))).2
    have hz1 : Rep S1.nodes h k0 l0 u0 := hR.1.congr fun j hj => keep j (hna2 j (.inr (.inl hj))).1 (hna2 j (.inr (.inl hj))).2
    have hzne := hna2 k0 (.inr (.inl hR.1.root_mem))
    have hz2 : Fit S1.nodes k0 := hfit k0 hzne.1 hzne.2 hR.2
    have hnd0 := hndB.2
    rw [hflat, List.nodup_append] at hnd0
    obtain ⟨x1, x1', f1, f2, f3, f4, f5⟩ := sum_spec (S := S1) (h := h + 1) (k := b) (l := ls.flatten) (us := b :: us.flatten)
      ⟨ks, ls, us, _, h1b, fun e => by rw [e] at hsb; simp at hsb, hB1, rfl, rfl⟩ (List.nodup_cons.2 ⟨fun hm => (hna2 b (.inr (.inr hm))).2 rfl, hnd0.2.1⟩) (by omega)
    rw [h1b] at f1; cases f1
    have h2a : (S1.setNode b x1').nodes[a]? = some na := by rw [set_other _ _ hab]; exact h1a
    have keep2 : ∀ j, j ≠ b → (S1.setNode b x1').nodes[j]? = S1.nodes[j]? := fun j h1 => set_other _ _ h1
    have hA2 : All3 (fun k l u => Rep (S1.setNode b x1').nodes h k l u ∧ Fit (S1.setNode b x1').nodes k) (ka ++ [k0]) (lsa ++ [l0]) (usa ++ [u0]) :=
      (hA1.congr fun j hj => keep2 j (hna2 j (.inl hj)).2).append
      ⟨⟨hz1.congr fun j hj => keep2 j (hna2 j (.inr (.inl hj))).2, by obtain ⟨x, hx, hh⟩ := hz2; exact ⟨x, by rw [keep2 k0 hzne.2]; exact hx, hh⟩⟩, trivial⟩
    have hfl2 : (usa ++ [u0]).flatten = usa.flatten ++ u0 := by simp
    have hll : (lsa ++ [l0]).flatten = lsa.flatten ++ l0 := by simp
    have hnda : (a :: (usa ++ [u0]).flatten).Nodup := by
      rw [List.nodup_cons, hfl2]
      refine ⟨fun hm => ?_, List.nodup_append.2 ⟨hndA.2, hnd0.1, fun x hx y hy => hndab.2.2 x (List.mem_cons.2 (.inr hx)) y (List.mem_cons.2 (.inr (by rw [hflat]; exact List.mem_append.2 (.inl hy))))⟩⟩
      rcases List.mem_append.1 hm with hm | hm
      · exact hndA.1 hm
      · exact (hna2 a (.inr (.inl hm))).1 rfl
    obtain ⟨x2, x2', g1, g2, g3, g4, g5⟩ := sum_spec (S := S1.setNode b x1') (h := h + 1) (k := a) (l := (lsa ++ [l0]).flatten) (us := a :: (usa ++ [u0]).flatten)
      ⟨ka ++ [k0], lsa ++ [l0], usa ++ [u0], _, h2a, by simp, hA2, rfl, rfl⟩ hnda (by rw [hll, List.length_append]; omega)
    rw [h2a] at g1; cases g1
    have ltb1 : b < S1.nodes.length := by simpa [S1, TS.setNode] using ltb
    have lta1 : a < (S1.setNode b x1').nodes.length := by simpa [S1, TS.setNode] using lta
    refine ⟨(S1.setNode b x1').setNode a x2', (lsa ++ [l0]).flatten, ls.flatten, a :: (usa ++ [u0]).flatten, b :: us.flatten, x2', x1', ?_, by simp, g3, ?_, ?_, set_get _ _ _ lta1, ?_, ?_, ?_, fun j hj => ?_, ?_, rfl, rfl⟩
    · simp only [TS.move, ea, eb]
      rw [if_neg (by rintro (h | h | h); exact hab h.symm; all_goals (simp [cap] at h; try omega))]
      simp only [if_neg hnb, Bool.false_eq_true, if_false]
      show (match S1.sum b with | none => none | some S2 => S2.sum a) = _
      rw [f2]; exact g2
    · exact f3.congr fun j hj => set_other _ _ (by
        rcases List.mem_cons.1 hj with e | hj
        · rw [e]; exact hab.symm
        · exact (hna2 j (.inr (.inr hj))).1)
    · refine Part.set (Part.set (Part.set (Part.set (hp.perm (List.Perm.append_right rest ?_)) _ _) _ _) _ _) _ _
      simp only [hfl2, hflat, List.cons_append]
      refine List.Perm.cons a ?_
      rw [List.append_assoc]
      refine List.Perm.append_left _ ?_
      exact List.perm_middle
    · rw [set_other _ _ hab.symm]; exact set_get _ _ _ ltb1
    · simp only [ND.size, f4, f5]; simp [nb]
    · simp only [ND.size, g4, g5]; simp [na]
    · rw [set_other _ _ (hra j hj), set_other _ _ (hrb j hj)]; exact keep j (hra j hj) (hrb j hj)
    · simp [S1, TS.setNode]

end Go.Em

namespace Go.Em

/-- What the merge of two neighbours does. -/
theorem merge_spec {S : TS} {h k a b la lb ua ub rest c} {kids : List Nat} {n : Nat} {xa xb : ND} (ra : Rep S.nodes h a la ua) (rb : Rep S.nodes h b lb ub) (hxa : S.nodes[a]? = some xa) (hxb : S.nodes[b]? = some xb)
    (hk : S.nodes[k]? = some ⟨[], kids, c⟩) (hka : kids[n]? = some a) (hkb : kids[n + 1]? = some b)
    (hp : Part (ua ++ ub ++ (k :: rest)) S) (hsa : xa.size ≤ 8) (hsb : xb.size ≤ 8) (hl : la.length + lb.length < cap) (hc : S.nodes.length < cap) :
    ∃ S' ua' xa', S.merge k n = some S' ∧ Rep S'.nodes h a (la ++ lb) ua' ∧ Part (ua' ++ (k :: rest)) S' ∧ S'.nodes[k]? = some ⟨[], kids.eraseIdx (n + 1), c⟩ ∧
      S'.nodes[a]? = some xa' ∧ xa'.size = xa.size + xb.size ∧ (∀ j, j ∈ rest → S'.nodes[j]? = S.nodes[j]?) ∧ S'.nodes.length = S.nodes.length ∧ S'.root = S.root := by
  have hma := ra.root_mem
  have hmb := rb.root_mem
  have hnd := hp.nodupA
  rw [List.nodup_append] at hnd
  have hndab := List.nodup_append.1 hnd.1
  have hndr := hnd.2.1
  rw [List.nodup_cons] at hndr
  have hab : a ≠ b := hndab.2.2 a hma b hmb
  have hka' : k ≠ a := fun e => hnd.2.2 a (List.mem_append.2 (.inl hma)) k (by simp) e.symm
  have hkb' : k ≠ b := fun e => hnd.2.2 b (List.mem_append.2 (.inr hmb)) k (by simp) e.symm
  have hra : ∀ j, j ∈ rest → j ≠ a := fun j hj e => hnd.2.2 a (List.mem_append.2 (.inl hma)) j (by simp [hj]) e.symm
  have hrb : ∀ j, j ∈ rest → j ≠ b := fun j hj e => hnd.2.2 b (List.mem_append.2 (.inr hmb)) j (by simp [hj]) e.symm
  have hrk : ∀ j, j ∈ rest → j ≠ k := fun j hj e => hndr.1 (e ▸ hj)
  have lta := (List.getElem?_eq_some_iff.1 hxa).1
  have ltk := (List.getElem?_eq_some_iff.1 hk).1
  -- both heights at once: the two nodes' lists
  obtain ⟨ka, kb, lia, lib, ua0, ub0, ea, eb, rfl, rfl, hpre⟩ :
      ∃ ka kb lia lib ua0 ub0, xa = ⟨lia, ka, xa.count⟩ ∧ xb = ⟨lib, kb, xb.count⟩ ∧ ua = a :: ua0 ∧ ub = b :: ub0 ∧
        (∀ N' : List ND, (∃ c', N'[a]? = some ⟨lia ++ lib, ka ++ kb, c'⟩) → (∀ j, j ∈ ua0 ∨ j ∈ ub0 → N'[j]? = S.nodes[j]?) → Pre N' h a (la ++ lb) (a :: (ua0 ++ ub0))) := by
    cases h with
    | zero =>
      obtain ⟨rfl, ea⟩ := ra
      obtain ⟨rfl, eb⟩ := rb
      rw [ea] at hxa; cases hxa
      rw [eb] at hxb; cases hxb
      exact ⟨[], [], la, lb, [], [], rfl, rfl, rfl, rfl, fun N' hN _ => ⟨rfl, hN⟩⟩
    | succ h =>
      obtain ⟨ka, lsa, usa, ea, hna, aa, rfl, rfl⟩ := ra
      obtain ⟨kb, lsb, usb, eb, hnb, ab, rfl, rfl⟩ := rb
      rw [ea] at hxa; cases hxa
      rw [eb] at hxb; cases hxb
      refine ⟨ka, kb, [], [], usa.flatten, usb.flatten, rfl, rfl, rfl, rfl, fun N' ⟨c', hN⟩ hj => ⟨ka ++ kb, lsa ++ lsb, usa ++ usb, c', hN, by simp [hna], ?_, by simp, by simp⟩⟩
      exact (aa.congr fun j h => hj j (.inl h)).append (ab.congr fun j h => hj j (.inr h))
  rw [ea] at hxa hsa
  rw [eb] at hxb hsb
  simp only [ND.size] at hsa hsb
  let na : ND := ⟨lia ++ lib, ka ++ kb, xa.count⟩
  have hp1 : Part (b :: ((a :: (ua0 ++ ub0)) ++ (k :: rest))) (S.setNode a na) := by
    refine Part.set (hp.perm ?_) a na
    simp only [List.cons_append, List.append_assoc]
    refine List.Perm.trans (List.Perm.swap _ _ _) ?_
    refine List.Perm.cons a ?_
    exact List.perm_middle.symm
  obtain ⟨S2, d1, d2, d3, d4, d5⟩ := drop_spec hp1 (by simpa [TS.setNode] using hc)
  have h2a : S2.nodes[a]? = some na := by rw [d3 a hab]; exact set_get _ _ _ lta
  let nk : ND := ⟨[], kids.eraseIdx (n + 1), c⟩
  have ltk2 : k < S2.nodes.length := by rw [d4]; simpa [TS.setNode] using ltk
  have lta2 : a < S2.nodes.length := by rw [d4]; simpa [TS.setNode] using lta
  have hin : ∀ j, j ∈ ua0 ∨ j ∈ ub0 → j ≠ a ∧ j ≠ b ∧ j ≠ k := by
    intro j hj
    rcases hj with hj | hj
    · exact ⟨fun e => (List.nodup_cons.1 hndab.1).1 (e ▸ hj), fun e => hndab.2.2 j (by simp [hj]) b (by simp) e, fun e => hnd.2.2 j (by simp [hj]) k (by simp) e⟩
    · exact ⟨fun e => hndab.2.2 a (by simp) j (by simp [hj]) e.symm, fun e => (List.nodup_cons.1 hndab.2.1).1 (e ▸ hj), fun e => hnd.2.2 j (by simp [hj]) k (by simp) e⟩
  have hS3 : ∀ j, j ∈ ua0 ∨ j ∈ ub0 → (S2.setNode k nk).nodes[j]? = S.nodes[j]? := fun j hj => by
    rw [set_other _ _ (hin j hj).2.2, d3 j (hin j hj).2.1, set_other _ _ (hin j hj).1]
  have h3a : (S2.setNode k nk).nodes[a]? = some na := by rw [set_other _ _ hka'.symm]; exact h2a
  have hnda : (a :: (ua0 ++ ub0)).Nodup := by
    rw [List.nodup_cons]
    refine ⟨fun hm => ?_, List.nodup_append.2 ⟨(List.nodup_cons.1 hndab.1).2, (List.nodup_cons.1 hndab.2.1).2, fun x hx y hy => hndab.2.2 x (by simp [hx]) y (by simp [hy])⟩⟩
    exact (hin a (List.mem_append.1 hm)).1 rfl
  obtain ⟨x1, x1', f1, f2, f3, f4, f5⟩ := sum_spec (S := S2.setNode k nk) (hpre _ ⟨_, h3a⟩ hS3) hnda (by simp; omega)
  rw [h3a] at f1; cases f1
  refine ⟨(S2.setNode k nk).setNode a x1', a :: (ua0 ++ ub0), x1', ?_, f3, Part.set (Part.set d2 k nk) a x1', ?_, set_get _ _ _ (by simpa [TS.setNode] using lta2), ?_, fun j hj => ?_, by simp [TS.setNode] at d4 ⊢; exact d4, d5⟩
  · simp only [TS.merge, hk, hka, hkb, hxa, hxb]
    rw [if_neg (by rintro (h | h | h); exact hab h; exact hka' h; exact hkb' h), if_pos (by simp only [cap]; omega)]
    have d1' : (S.setNode a ⟨lia ++ lib, ka ++ kb, xa.count⟩).drop b = some S2 := d1
    simp only [d1']
    exact f2
  · rw [set_other _ _ hka']; exact set_get _ _ _ ltk2
  · simp only [ND.size, f4, f5]
    rw [ea, eb]
    simp [na]; omega
  · rw [set_other _ _ (hra j hj), set_other _ _ (hrk j hj), d3 j (hrb j hj), set_other _ _ (hra j hj)]

theorem eraseIdx_after {α : Type} (a c : List α) (y z : α) (n : Nat) (h : a.length = n) : (a ++ y :: z :: c).eraseIdx (n + 1) = a ++ y :: c := by
  subst h
  rw [List.eraseIdx_append_of_length_le (by omega)]
  simp

theorem getElem_mid {α : Type} (a c : List α) (y : α) : (a ++ y :: c)[a.length]? = some y := by simp

theorem getElem_mid' {α : Type} {a c : List α} {y : α} {n : Nat} (h : a.length = n) : (a ++ y :: c)[n]? = some y := by subst h; simp

theorem getElem_mid2 {α : Type} {a c : List α} {y z : α} {n : Nat} (h : a.length = n) : (a ++ y :: z :: c)[n + 1]? = some z := by
  subst h
  rw [List.getElem?_append_right (by omega)]
  simp

theorem snoc_of_pos {α : Type} (l : List α) (h : 0 < l.length) : ∃ a z, l = a ++ [z] ∧ a.length + 1 = l.length :=
  ⟨l.dropLast, l.getLast (by intro e; simp [e] at h), (List.dropLast_concat_getLast _).symm, by simp; omega⟩

theorem kidSize_next {N : List ND} {A B : List Nat} {kid b n : Nat} {x : ND} (h : A.length = n) (hx : N[b]? = some x) (h8 : x.size ≤ 8) : kidSize N (A ++ kid :: b :: B) (n + 1) = some x.size := by
  unfold kidSize
  rw [getElem_mid2 h]
  simp [hx, h8]
theorem kidSize_end {N : List ND} {A : List Nat} {kid n : Nat} (h : A.length = n) : kidSize N (A ++ [kid]) (n + 1) = some 0 := by
  unfold kidSize
  rw [List.getElem?_eq_none (by simp; omega)]

/-- Mending: a kid that may have too little has enough behind it. -/
theorem mend_spec {S : TS} {h k c rest} {kA kB : List Nat} {lA lB : List (List ByteArray)} {uA uB : List (List Nat)} {kid : Nat} {l0 : List ByteArray} {u0 : List Nat} {x0 : ND}
    (hk : S.nodes[k]? = some ⟨[], kA ++ kid :: kB, c⟩)
    (hA : All3 (fun k l u => Rep S.nodes h k l u ∧ Fit S.nodes k) kA lA uA) (hB : All3 (fun k l u => Rep S.nodes h k l u ∧ Fit S.nodes k) kB lB uB)
    (hr : Rep S.nodes h kid l0 u0) (hx0 : S.nodes[kid]? = some x0) (h3 : 3 ≤ x0.size) (h8 : x0.size ≤ 8) (h2 : 2 ≤ (kA ++ kid :: kB).length)
    (hp : Part (k :: (uA.flatten ++ u0 ++ uB.flatten) ++ rest) S) (hc : S.nodes.length < cap) (hl : (lA.flatten ++ l0 ++ lB.flatten).length < cap) :
    ∃ S' kids' ls' us', S.mend k kA.length = some S' ∧ S'.nodes[k]? = some ⟨[], kids', c⟩ ∧ All3 (fun k l u => Rep S'.nodes h k l u ∧ Fit S'.nodes k) kids' ls' us' ∧
      ls'.flatten = lA.flatten ++ l0 ++ lB.flatten ∧ kids'.length ≤ (kA ++ kid :: kB).length ∧ (kA ++ kid :: kB).length ≤ kids'.length + 1 ∧ Part (k :: us'.flatten ++ rest) S' ∧
      (∀ j, j ∈ rest → S'.nodes[j]? = S.nodes[j]?) ∧ S'.nodes.length = S.nodes.length ∧ S'.root = S.root := by
  have hks : kidSize S.nodes (kA ++ kid :: kB) kA.length = some x0.size := by simp [kidSize, hx0, h8]
  have hlt := (List.getElem?_eq_some_iff.1 hk).1
  have hlA := hA.lengths
  have hlB := hB.lengths
  by_cases h4 : 4 ≤ x0.size
  · refine ⟨S, kA ++ kid :: kB, lA ++ l0 :: lB, uA ++ u0 :: uB, ?_, hk, hA.append ⟨⟨hr, x0, hx0, h4, h8⟩, hB⟩, flatten_mid _ _ _, Nat.le_refl _, by omega, by rw [flatten_mid]; exact hp, fun _ _ => rfl, rfl, rfl⟩
    simp only [TS.mend, hk, hks, if_pos h4]
  have e3 : x0.size = 3 := by omega
  by_cases hA0 : 0 < kA.length
  · -- there is a left neighbour
    obtain ⟨kA', a, rfl, hAl⟩ := snoc_of_pos kA hA0
    obtain ⟨lA', la, rfl, _⟩ := snoc_of_pos lA (by omega)
    obtain ⟨uA', ua, rfl, _⟩ := snoc_of_pos uA (by omega)
    have hsp := hA.split kA'.length
    have hl1 : lA'.length = kA'.length := by simp at hlA hAl; omega
    have hu1 : uA'.length = kA'.length := by simp at hlA hAl; omega
    simp only [List.take_left, List.drop_left, ← hl1] at hsp
    rw [show lA'.length = uA'.length by omega] at hsp
    simp only [List.take_left, List.drop_left] at hsp
    obtain ⟨hA', ⟨⟨ra, xa, hxa, ha4, ha8⟩, _⟩⟩ : All3 (fun k l u => Rep S.nodes h k l u ∧ Fit S.nodes k) kA' lA' uA' ∧ All3 (fun k l u => Rep S.nodes h k l u ∧ Fit S.nodes k) [a] [la] [ua] := by
      refine ⟨?_, ?_⟩
      · have := (hA.split kA'.length).1
        rw [List.take_left' rfl, List.take_left' hl1, List.take_left' hu1] at this
        exact this
      · have := (hA.split kA'.length).2
        rw [List.drop_left' rfl, List.drop_left' hl1, List.drop_left' hu1] at this
        exact this
    have ekids : kA' ++ [a] ++ kid :: kB = kA' ++ a :: kid :: kB := by simp
    have elen : (kA' ++ [a]).length = kA'.length + 1 := by simp
    have hks1 : kidSize S.nodes (kA' ++ [a] ++ kid :: kB) ((kA' ++ [a]).length - 1) = some xa.size := by
      rw [ekids, elen]; simp [kidSize, hxa, ha8]
    have hpp : Part (ua ++ u0 ++ (k :: (uA'.flatten ++ uB.flatten ++ rest))) S := by
      refine hp.perm ?_
      have e1 : (uA' ++ [ua]).flatten = uA'.flatten ++ ua := by simp
      rw [e1]
      refine List.Perm.trans (List.perm_middle) ?_
      rw [List.cons_append]
      refine List.Perm.cons k ?_
      simp only [List.append_assoc]
      rw [← List.append_assoc ua, ← List.append_assoc uA'.flatten ua, ← List.append_assoc (uA'.flatten ++ ua), ← List.append_assoc (ua ++ u0)]
      rw [← List.append_assoc (uA'.flatten ++ ua ++ u0)]
      rw [← List.append_assoc (ua ++ u0 ++ uA'.flatten)]
      refine List.Perm.append_right _ (List.Perm.append_right _ ?_)
      rw [List.append_assoc uA'.flatten]
      exact List.perm_append_comm
    have elf : (lA' ++ [la]).flatten = lA'.flatten ++ la := by simp
    rw [elf] at hl ⊢
    simp only [List.length_append] at hl
    by_cases hmv : 4 < xa.size
    · obtain ⟨S', la', lb', ua', ub', xa', xb', g1, g2, g3, g4, g5, g6, g7, g8, g9, g10, g11, g12, _⟩ := move_back_spec ra hr hxa hx0 hpp (by omega) h8 (by omega)
      have hrest : ∀ j, j ∈ rest → S'.nodes[j]? = S.nodes[j]? := fun j hj => g10 j (by simp [hj])
      refine ⟨S', kA' ++ a :: kid :: kB, lA' ++ la' :: lb' :: lB, uA' ++ ua' :: ub' :: uB, ?_, by rw [g10 k (by simp), hk, ekids], ?_, ?_, by rw [ekids]; exact Nat.le_refl _, by rw [ekids]; omega, ?_, hrest, g11, g12⟩
      · simp only [TS.mend, hk, hks, if_neg h4]
        rw [if_neg (by omega), hks1]
        simp only [if_pos hmv]
        rw [elen, Nat.add_sub_cancel, ekids, getElem_mid' rfl, getElem_mid2 rfl]
        exact g1
      · refine (hA'.congr fun j hj => g10 j ?_).append ⟨⟨g3, xa', g6, by omega, by omega⟩, ⟨g4, xb', g7, by omega, by omega⟩, hB.congr fun j hj => g10 j ?_⟩
        · simp only [List.mem_cons, List.mem_append]; exact .inr (.inl (.inl hj))
        · simp only [List.mem_cons, List.mem_append]; exact .inr (.inl (.inr hj))
      · have : (lA' ++ la' :: lb' :: lB).flatten = lA'.flatten ++ (la' ++ lb') ++ lB.flatten := by simp
        rw [this, ← g2]; simp
      · refine g5.perm ?_
        have : (uA' ++ ua' :: ub' :: uB).flatten = uA'.flatten ++ (ua' ++ ub') ++ uB.flatten := by simp
        rw [this]
        have hq := perm_mid k uA'.flatten (ua' ++ ub') uB.flatten rest []
        simpa using hq
    · -- merge with the left one
      have hkeq : (kA' ++ [a] ++ kid :: kB) = kA' ++ a :: kid :: kB := ekids
      have hks2 : ∃ s2, kidSize S.nodes (kA' ++ [a] ++ kid :: kB) ((kA' ++ [a]).length + 1) = some s2 ∧ (4 < s2 → ∃ b kB', kB = b :: kB') := by
        cases kB with
        | nil => exact ⟨0, kidSize_end rfl, fun h => by omega⟩
        | cons b kB' =>
          match lB, uB, hB with
          | lb :: lB', ub :: uB', hB =>
          obtain ⟨⟨_, xb, hxb, _, hb8⟩, _⟩ := hB
          exact ⟨xb.size, kidSize_next rfl hxb hb8, fun _ => ⟨b, kB', rfl⟩⟩
      obtain ⟨s2, hs2, hs2'⟩ := hks2
      by_cases hrt : 4 < s2
      · -- from the right
        obtain ⟨b, kB', rfl⟩ := hs2' hrt
        match lB, uB, hB, hlB, hp, hpp, hl with
        | lb :: lB', ub :: uB', hB, hlB, hp, hpp, hl =>
        obtain ⟨⟨rb, xb, hxb, hb4, hb8⟩, hB'⟩ := hB
        have es2 : s2 = xb.size := by
          have : kidSize S.nodes (kA' ++ [a] ++ kid :: b :: kB') ((kA' ++ [a]).length + 1) = some xb.size := kidSize_next rfl hxb hb8
          rw [this] at hs2; exact (Option.some.inj hs2).symm
        have hpr : Part (u0 ++ ub ++ (k :: ((uA' ++ [ua]).flatten ++ uB'.flatten ++ rest))) S := by
          refine hp.perm ?_
          have e1 : (ub :: uB').flatten = ub ++ uB'.flatten := by simp
          rw [e1]
          have hq := perm_mid k (uA' ++ [ua]).flatten (u0 ++ ub) uB'.flatten rest []
          simp only [List.append_nil, List.append_assoc, List.cons_append] at hq ⊢
          exact hq.symm
        obtain ⟨S', la', lb', ua', ub', xa', xb', g1, g2, g3, g4, g5, g6, g7, g8, g9, g10, g11, g12, _⟩ := move_fore_spec hr rb hx0 hxb hpr (by omega) h8 (by simp at hl; omega)
        have hrest : ∀ j, j ∈ rest → S'.nodes[j]? = S.nodes[j]? := fun j hj => g10 j (by simp [hj])
        refine ⟨S', kA' ++ [a] ++ kid :: b :: kB', (lA' ++ [la]) ++ la' :: lb' :: lB', (uA' ++ [ua]) ++ ua' :: ub' :: uB', ?_, by rw [g10 k (by simp), hk], ?_, ?_, Nat.le_refl _, by omega, ?_, hrest, g11, g12⟩
        · simp only [TS.mend, hk, hks, if_neg h4]
          rw [if_neg (by omega), hks1]
          simp only [if_neg hmv, hs2, if_pos hrt]
          rw [getElem_mid2 rfl, getElem_mid' rfl]
          exact g1
        · refine (hA.congr fun j hj => g10 j ?_).append ⟨⟨g3, xa', g6, by omega, by omega⟩, ⟨g4, xb', g7, by omega, by omega⟩, hB'.congr fun j hj => g10 j ?_⟩
          · simp only [List.mem_cons, List.mem_append]; exact .inr (.inl (.inl hj))
          · simp only [List.mem_cons, List.mem_append]; exact .inr (.inl (.inr hj))
        · have : (lA' ++ [la] ++ la' :: lb' :: lB').flatten = lA'.flatten ++ la ++ (la' ++ lb') ++ lB'.flatten := by simp
          rw [this, ← g2]; simp
        · refine g5.perm ?_
          have : (uA' ++ [ua] ++ ua' :: ub' :: uB').flatten = (uA' ++ [ua]).flatten ++ (ua' ++ ub') ++ uB'.flatten := by simp
          rw [this]
          have hq := perm_mid k (uA' ++ [ua]).flatten (ua' ++ ub') uB'.flatten rest []
          simpa using hq
      · -- the merge
        have hpm : Part (ua ++ u0 ++ (k :: ((uA'.flatten ++ uB.flatten) ++ rest))) S := by simpa using hpp
        obtain ⟨S', ua', xa', g1, g2, g3, g4, g5, g6, g7, g8, g9⟩ := merge_spec (n := kA'.length) ra hr hxa hx0 hk (by rw [ekids]; exact getElem_mid' rfl) (by rw [ekids]; exact getElem_mid2 rfl) hpm ha8 h8 (by omega) hc
        have hrest : ∀ j, j ∈ rest → S'.nodes[j]? = S.nodes[j]? := fun j hj => g7 j (by simp [hj])
        rw [ekids, eraseIdx_after _ _ _ _ _ rfl] at g4
        refine ⟨S', kA' ++ a :: kB, lA' ++ (la ++ l0) :: lB, uA' ++ ua' :: uB, ?_, g4, ?_, ?_, by simp, by simp; omega, ?_, hrest, g8, g9⟩
        · simp only [TS.mend, hk, hks, if_neg h4]
          rw [if_neg (by omega), hks1]
          simp only [if_neg hmv, hs2, if_neg hrt]
          rw [if_pos (by omega), elen, Nat.add_sub_cancel]
          exact g1
        · refine (hA'.congr fun j hj => g7 j ?_).append ⟨⟨g2, xa', g5, by omega, by omega⟩, hB.congr fun j hj => g7 j ?_⟩
          · simp only [List.mem_append]; exact .inl (.inl hj)
          · simp only [List.mem_append]; exact .inl (.inr hj)
        · simp
        · refine g3.perm ?_
          rw [flatten_mid]
          have hq := perm_mid k uA'.flatten ua' uB.flatten rest []
          simpa using hq
  · -- the first kid
    have eA : kA = [] := List.eq_nil_of_length_eq_zero (by omega)
    subst eA
    have eA2 : lA = [] := List.eq_nil_of_length_eq_zero (by simpa using hlA.1)
    have eA3 : uA = [] := List.eq_nil_of_length_eq_zero (by simpa using hlA.2)
    subst eA2; subst eA3
    match kB, lB, uB, hB, hlB, hp, hl, h2, hk, hks with
    | b :: kB', lb :: lB', ub :: uB', hB, hlB, hp, hl, h2, hk, hks =>
    obtain ⟨⟨rb, xb, hxb, hb4, hb8⟩, hB'⟩ := hB
    have hs2 : kidSize S.nodes ([] ++ kid :: b :: kB') (0 + 1) = some xb.size := kidSize_next rfl hxb hb8
    have hpr : Part (u0 ++ ub ++ (k :: (uB'.flatten ++ rest))) S := by
      refine hp.perm ?_
      have hq := perm_mid k [] (u0 ++ ub) uB'.flatten rest []
      simp only [List.append_nil, List.nil_append, List.append_assoc, List.cons_append, List.flatten_nil, List.flatten_cons] at hq ⊢
      exact hq.symm
    simp only [List.length_append, List.flatten_cons] at hl
    by_cases hrt : 4 < xb.size
    · obtain ⟨S', la', lb', ua', ub', xa', xb', g1, g2, g3, g4, g5, g6, g7, g8, g9, g10, g11, g12, _⟩ := move_fore_spec hr rb hx0 hxb hpr (by omega) h8 (by omega)
      have hrest : ∀ j, j ∈ rest → S'.nodes[j]? = S.nodes[j]? := fun j hj => g10 j (by simp [hj])
      refine ⟨S', kid :: b :: kB', la' :: lb' :: lB', ua' :: ub' :: uB', ?_, by rw [g10 k (by simp), hk]; rfl, ?_, ?_, by simp, by simp, ?_, hrest, g11, g12⟩
      · simp only [TS.mend, hk, hks, if_neg h4]
        simp only [List.length_nil, if_true, hs2] at *
        simp only [if_pos hrt]
        simp only [List.nil_append, List.getElem?_cons_zero, List.getElem?_cons_succ, Nat.zero_add]
        simpa using g1
      · exact ⟨⟨g3, xa', g6, by omega, by omega⟩, ⟨g4, xb', g7, by omega, by omega⟩, hB'.congr fun j hj => g10 j (by simp only [List.mem_cons, List.mem_append]; exact .inr (.inl hj))⟩
      · have : (la' :: lb' :: lB').flatten = (la' ++ lb') ++ lB'.flatten := by simp
        rw [this, ← g2]; simp
      · refine g5.perm ?_
        have : (ua' :: ub' :: uB').flatten = (ua' ++ ub') ++ uB'.flatten := by simp
        rw [this]
        have hq := perm_mid k [] (ua' ++ ub') uB'.flatten rest []
        simpa using hq
    · obtain ⟨S', ua', xa', g1, g2, g3, g4, g5, g6, g7, g8, g9⟩ := merge_spec (n := 0) hr rb hx0 hxb hk rfl rfl hpr h8 hb8 (by omega) hc
      have hrest : ∀ j, j ∈ rest → S'.nodes[j]? = S.nodes[j]? := fun j hj => g7 j (by simp [hj])
      refine ⟨S', kid :: kB', (l0 ++ lb) :: lB', ua' :: uB', ?_, by simpa using g4, ?_, ?_, by simp, by simp, ?_, hrest, g8, g9⟩
      · simp only [TS.mend, hk, hks, if_neg h4]
        simp only [List.length_nil, if_true, hs2] at *
        simp only [if_neg hrt]
        simpa using g1
      · exact ⟨⟨g2, xa', g5, by omega, by omega⟩, hB'.congr fun j hj => g7 j (by simp only [List.mem_append]; exact .inl hj)⟩
      · simp
      · refine g3.perm ?_
        have hq := perm_mid k [] ua' uB'.flatten rest []
        simpa using hq

end Go.Em

namespace Go.Em

theorem eraseIdx_mid {α : Type} (a b c : List α) (j : Nat) (h : j < b.length) : (a ++ b ++ c).eraseIdx (a.length + j) = a ++ b.eraseIdx j ++ c := by
  rw [List.append_assoc, List.eraseIdx_append_of_length_le (by omega), Nat.add_sub_cancel_left, List.eraseIdx_append_of_lt_length h, List.append_assoc]

theorem remove_spec : ∀ (f h : Nat) (S : TS) (k : Nat) (l : List ByteArray) (us rest : List Nat) (i : Nat), h < f → Rep S.nodes h k l us →
    (∃ x, S.nodes[k]? = some x ∧ x.size ≤ 8 ∧ (h ≠ 0 → 2 ≤ x.kids.length)) → Part (us ++ rest) S → S.nodes.length < cap → l.length < cap → i < l.length →
    ∃ z S' us' x x', TS.remove f S k i = some (z, S') ∧ l[i]? = some z ∧ Rep S'.nodes h k (l.eraseIdx i) us' ∧ Part (us' ++ rest) S' ∧ (∀ j, j ∈ rest → S'.nodes[j]? = S.nodes[j]?) ∧
      S'.nodes.length = S.nodes.length ∧ S'.root = S.root ∧ S.nodes[k]? = some x ∧ S'.nodes[k]? = some x' ∧ x'.size ≤ x.size ∧ x.size ≤ x'.size + 1
  | 0, _, _, _, _, _, _, _, hf, _, _, _, _, _, _ => absurd hf (Nat.not_lt_zero _)
  | f + 1, 0, S, k, l, us, rest, i, _, hr, _, hp, hc, hl, hi => by
    obtain ⟨rfl, hx⟩ := hr
    have hlt := (List.getElem?_eq_some_iff.1 hx).1
    obtain ⟨z, hz⟩ : ∃ z, l[i]? = some z := ⟨l[i], List.getElem?_eq_getElem hi⟩
    let y : ND := ⟨l.eraseIdx i, [], l.length⟩
    have hy : (S.setNode k y).nodes[k]? = some y := set_get S k y hlt
    have hil : (l.eraseIdx i).length + 1 = l.length := by rw [List.length_eraseIdx_of_lt hi]; omega
    obtain ⟨xa, xa', ha1, ha2, ha3, ha4, ha5⟩ := sum_spec (S := S.setNode k y) (h := 0) (k := k) (l := l.eraseIdx i) (us := [k]) ⟨rfl, _, hy⟩ (by simp) (by omega)
    rw [hy] at ha1; cases ha1
    have hxa : ((S.setNode k y).setNode k xa').nodes[k]? = some xa' := set_get _ _ _ (by simpa [TS.setNode] using hlt)
    refine ⟨z, (S.setNode k y).setNode k xa', [k], _, xa', ?_, hz, ha3, (hp.set k y).set k xa', fun j hj => ?_, by simp [TS.setNode], rfl, hx, hxa, ?_, ?_⟩
    · simp only [TS.remove, hx, if_true, hz]
      show (match (S.setNode k y).sum k with | none => none | some S2 => some (z, S2)) = _
      rw [ha2]
    · have : j ≠ k := fun e => apart hp (by simp) hj e.symm
      rw [set_other _ _ this, set_other _ _ this]
    · simp only [ND.size, ha4, ha5]; simp only [y, List.length_nil]; omega
    · simp only [ND.size, ha4, ha5]; simp only [y, List.length_nil]; omega
  | f + 1, h + 1, S, k, l, us, rest, i, hf, hr, hsz, hp, hc, hl, hi => by
    obtain ⟨kids, ls, uss, hx, hne0, ha, rfl, rfl⟩ := hr
    obtain ⟨x, hx2, _, hk2⟩ := hsz
    rw [hx] at hx2; cases hx2
    have hk2 : 2 ≤ kids.length := hk2 (by omega)
    have hlt := (List.getElem?_eq_some_iff.1 hx).1
    obtain ⟨n, j, hfind, hn, hij, _, hjlt⟩ := findGo_spec 0 i ha hne0 (Nat.le_of_lt hi)
    rw [Nat.zero_add] at hfind
    obtain ⟨kid, l0, u0, ek, el, eu, ⟨hrk, hfk⟩, hA, hB⟩ := ha.mid n hn
    have hlen := ha.lengths
    have hkid : kids[n]? = some kid := by rw [ek, List.getElem?_append_right (by simp [List.length_take]; omega)]; simp [List.length_take, Nat.min_eq_left (Nat.le_of_lt hn)]
    have hl0 : ls[n]? = some l0 := by rw [el, List.getElem?_append_right (by simp [List.length_take]; omega)]; simp [List.length_take, Nat.min_eq_left (show n ≤ ls.length by omega)]
    have hj := hjlt hi l0 hl0
    have elf : ls.flatten = (ls.take n).flatten ++ l0 ++ (ls.drop (n + 1)).flatten := by rw [← flatten_mid, ← el]
    have euf : uss.flatten = (uss.take n).flatten ++ u0 ++ (uss.drop (n + 1)).flatten := by rw [← flatten_mid, ← eu]
    generalize hkA : kids.take n = kA at *
    generalize hkB : kids.drop (n + 1) = kB at *
    generalize hlA : ls.take n = lA at *
    generalize hlB : ls.drop (n + 1) = lB at *
    generalize huA : uss.take n = uA at *
    generalize huB : uss.drop (n + 1) = uB at *
    have hkAlen : kA.length = n := by rw [← hkA, List.length_take]; omega
    have hlens : lA.flatten.length + l0.length + lB.flatten.length = ls.flatten.length := by rw [elf]; simp; omega
    have hpk : Part (u0 ++ (k :: (uA.flatten ++ uB.flatten) ++ rest)) S := by
      refine List.Perm.trans ?_ hp
      rw [euf]
      exact (perm_mid k uA.flatten u0 uB.flatten rest S.free).symm
    obtain ⟨xk, hxk, hx4, hx8⟩ := hfk
    have hkk : h ≠ 0 → 2 ≤ xk.kids.length := by
      intro hh
      cases h with
      | zero => exact absurd rfl hh
      | succ h =>
        obtain ⟨kk, _, _, hxx, _⟩ := hrk
        rw [hxk] at hxx; cases hxx
        simp [ND.size] at hx4; simp; omega
    obtain ⟨z, S', u', xo, xk', h1, h2, h3, h4, h5, h6, h7, h8, h9, h10, h11⟩ := remove_spec f h S kid l0 u0 _ j (by omega) hrk ⟨xk, hxk, hx8, hkk⟩ hpk hc (by omega) hj
    rw [hxk] at h8; cases h8
    have hkS' : S'.nodes[k]? = some ⟨[], kA ++ kid :: kB, ls.flatten.length⟩ := by rw [h5 k (by simp), ← ek]; exact hx
    have hA' : All3 (fun k l u => Rep S'.nodes h k l u ∧ Fit S'.nodes k) kA lA uA := hA.congr fun j hj => h5 j (by simp only [List.mem_append, List.mem_cons]; exact .inl (.inr (.inl hj)))
    have hB' : All3 (fun k l u => Rep S'.nodes h k l u ∧ Fit S'.nodes k) kB lB uB := hB.congr fun j hj => h5 j (by simp only [List.mem_append, List.mem_cons]; exact .inl (.inr (.inr hj)))
    have hrest : ∀ j, j ∈ rest → S'.nodes[j]? = S.nodes[j]? := fun j hj => h5 j (by simp only [List.mem_append]; exact .inr hj)
    have herl : (l0.eraseIdx j).length + 1 = l0.length := by rw [List.length_eraseIdx_of_lt hj]; omega
    have hp' : Part (k :: (uA.flatten ++ u' ++ uB.flatten) ++ rest) S' := by
      refine h4.perm ?_
      have hq := perm_mid k uA.flatten u' uB.flatten rest []
      simpa using hq
    obtain ⟨S2, kids', ls', us', m1, m2, m3, m4, m5, m6, m7, m8, m9, m10⟩ := mend_spec hkS' hA' hB' h3 h9 (by omega) (by omega) (by rw [← ek]; exact hk2) hp' (by omega) (by simp only [List.length_append]; omega)
    have herase : ls'.flatten = ls.flatten.eraseIdx i := by rw [m4, elf, hij, eraseIdx_mid _ _ _ _ hj]
    have hlen' : (ls.flatten.eraseIdx i).length + 1 = ls.flatten.length := by rw [List.length_eraseIdx_of_lt hi]; omega
    rw [← ek] at m5 m6
    obtain ⟨xa, xa', ha1, ha2, ha3, ha4, ha5⟩ := sum_spec (S := S2) (h := h + 1) (k := k) (l := ls.flatten.eraseIdx i) (us := k :: us'.flatten)
      ⟨kids', ls', us', _, m2, by intro e; rw [e] at m6; simp at m6; omega, m3, herase.symm, rfl⟩ (nodup_left m7) (by omega)
    rw [m2] at ha1; cases ha1
    have hxa : (S2.setNode k xa').nodes[k]? = some xa' := set_get _ _ _ (List.getElem?_eq_some_iff.1 m2).1
    refine ⟨z, S2.setNode k xa', k :: us'.flatten, _, xa', ?_, ?_, ha3, m7.set k xa', fun j hj => ?_, by simp [TS.setNode]; omega, m10.trans h7, hx, hxa, ?_, ?_⟩
    · simp only [TS.remove, hx, if_neg hne0, hfind, hkid, h1]
      rw [← hkAlen, m1]
      simp only [ha2]
    · rw [elf, hij, List.append_assoc, List.getElem?_append_right (by omega), Nat.add_sub_cancel_left, List.getElem?_append_left hj]; exact h2
    · have : j ≠ k := fun e => apart hp (by simp) hj e.symm
      rw [set_other _ _ this, m8 j hj, hrest j hj]
    · simp only [ND.size, ha4, ha5]; simpa using m5
    · simp only [ND.size, ha4, ha5]; simpa using m6

/-! ## The whole tree -/

theorem Rep.few {N : List ND} : ∀ {h k l us}, Rep N h k l us → Fit N k → us.length + 1 ≤ l.length
  | 0, k, l, us, hr, hf => by
    obtain ⟨rfl, hx⟩ := hr
    obtain ⟨x, hx', h4, _⟩ := hf
    rw [hx] at hx'; cases hx'
    simp [ND.size] at h4; simp; omega
  | h + 1, k, l, us, hr, hf => by
    obtain ⟨kids, ls, uss, hx, hne, ha, rfl, rfl⟩ := hr
    obtain ⟨x, hx', h4, _⟩ := hf
    rw [hx] at hx'; cases hx'
    simp [ND.size] at h4
    have : ∀ {ks ls us}, All3 (fun k l u => Rep N h k l u ∧ Fit N k) ks ls us → us.flatten.length + ks.length ≤ ls.flatten.length := by
      intro ks
      induction ks with
      | nil => intro ls us ha; cases ls <;> cases us <;> simp_all [All3]
      | cons k ks ih =>
        intro ls us ha
        match ls, us, ha with
        | l :: ls, u :: us, ha =>
          have h1 := Rep.few ha.1.1 ha.1.2
          have h2 := ih ha.2
          simp only [List.flatten_cons, List.length_append, List.length_cons]; omega
    have := this ha
    simp only [List.length_cons]; omega

theorem Rep.few_root {N : List ND} {h k l us} (hr : Rep N h k l us) (h2 : ∀ x, N[k]? = some x → h ≠ 0 → 2 ≤ x.kids.length) : us.length ≤ l.length + 1 := by
  cases h with
  | zero => rw [hr.1]; simp
  | succ h =>
    obtain ⟨kids, ls, uss, hx, hne, ha, rfl, rfl⟩ := hr
    have h2 := h2 _ hx (by omega)
    simp at h2
    have : ∀ {ks ls us}, All3 (fun k l u => Rep N h k l u ∧ Fit N k) ks ls us → us.flatten.length + ks.length ≤ ls.flatten.length := by
      intro ks
      induction ks with
      | nil => intro ls us ha; cases ls <;> cases us <;> simp_all [All3]
      | cons k ks ih =>
        intro ls us ha
        match ls, us, ha with
        | l :: ls, u :: us, ha =>
          have h1 := Rep.few ha.1.1 ha.1.2
          have h2 := ih ha.2
          simp only [List.flatten_cons, List.length_append, List.length_cons]; omega
    have := this ha
    simp only [List.length_cons]; omega

theorem Rep.high {N : List ND} : ∀ {h k l us}, Rep N h k l us → h < us.length
  | 0, _, _, _, hr => by rw [hr.1]; simp
  | h + 1, k, l, us, hr => by
    obtain ⟨kids, ls, uss, hx, hne, ha, rfl, rfl⟩ := hr
    match kids, ls, uss, ha, hne with
    | k :: ks, l :: ls, u :: us, ha, _ =>
      have := Rep.high ha.1.1
      simp only [List.flatten_cons, List.length_cons, List.length_append]; omega

def most : Nat := 100000

/-- A tree that stands, of these lines. -/
def Good (S : TS) (l : List ByteArray) : Prop :=
  ∃ h us x, Rep S.nodes h S.root l us ∧ Part us S ∧ S.nodes[S.root]? = some x ∧ x.size ≤ 8 ∧ (h ≠ 0 → 2 ≤ x.kids.length) ∧ S.nodes.length ≤ most + 2 ∧ l.length ≤ most

theorem Good.bounds {S : TS} {l : List ByteArray} (h : Good S l) : S.nodes.length ≤ most + 2 ∧ l.length ≤ most := by
  obtain ⟨_, _, _, _, _, _, _, _, h1, h2⟩ := h; exact ⟨h1, h2⟩

theorem Good.len {S : TS} {l : List ByteArray} (h : Good S l) : S.len = some l.length := by
  obtain ⟨_, _, _, hr, _⟩ := h
  obtain ⟨x, hx, hc⟩ := hr.count
  simp [TS.len, hx, hc]

theorem good_new : Good { nodes := [⟨[], [], 0⟩], free := [], root := 0 } [] := ⟨0, [0], _, ⟨rfl, rfl⟩, by simp [Part], rfl, by simp [ND.size], fun h => absurd rfl h, by simp, by simp⟩

theorem Good.insert {S : TS} {l : List ByteArray} (h : Good S l) (i : Nat) (line : ByteArray) (hi : i ≤ l.length) (hl : l.length < most) :
    ∃ f S', TS.insertTop f S i line = some S' ∧ Good S' (ins l i line) := by
  obtain ⟨h, us, x, hr, hp, hx, h8, h2, hn, _⟩ := h
  have hil := ins_length l i line hi
  have hhigh := hr.high
  have hle := hp.length
  obtain ⟨o, S', h1, hg, _, h4⟩ := insert_spec (h + 1) h S S.root l us [] i line (by omega) hr ⟨x, hx, h8⟩ (by simpa using hp) (by simp only [cap, most] at *; omega) (by simp only [cap, most] at *; omega) hi
  have hroot := hg.root
  have hgle := hg.le
  refine ⟨h + 1, ?_⟩
  simp only [TS.insertTop, h1]
  rcases h4 with ⟨rfl, us', r1, p1, xo, x', hxo, hx', hle1, hle2⟩ | ⟨k2, l1, l2, us1, us2, rfl, e12, r1, r2, f1, f2, p1⟩
  · rw [hx] at hxo; cases hxo
    have p1' : Part us' S' := by simpa using p1
    have hh2 : h ≠ 0 → 2 ≤ x'.kids.length := by
      intro hh
      cases h with
      | zero => exact absurd rfl hh
      | succ h =>
        obtain ⟨kids, ls, uss, hk, _⟩ := hr
        rw [hx] at hk; cases hk
        obtain ⟨kids', ls', uss', hk', _⟩ := r1
        rw [hx'] at hk'; cases hk'
        have := h2 (by omega)
        simp [ND.size] at hle1 this ⊢; omega
    refine ⟨S', rfl, h, us', x', by rw [hroot]; exact r1, p1', by rw [hroot]; exact hx', hle2, hh2, ?_, by omega⟩
    by_cases hgrew : S.nodes.length < S'.nodes.length
    · have hf := hg.full hgrew
      have hfew := r1.few_root (fun y hy hh => by rw [hx'] at hy; cases hy; exact hh2 hh)
      have := p1'.length
      rw [hf] at this; simp at this
      omega
    · have := hg.ge; omega
  · have p1' : Part (us1 ++ us2) S' := by simpa using p1
    obtain ⟨r, S2, hm, hp2, hget, hoth, hg2⟩ := make_spec ⟨[], [S.root, k2], 0⟩ p1' (by simp only [cap, most] at *; omega)
    have hk1 : ∀ j, j ∈ us1 → S2.nodes[j]? = S'.nodes[j]? := fun j hj => hoth j (by simp [hj])
    have hk2 : ∀ j, j ∈ us2 → S2.nodes[j]? = S'.nodes[j]? := fun j hj => hoth j (by simp [hj])
    have hfit1 : Fit S2.nodes S.root := by obtain ⟨y, hy, hh⟩ := f1; exact ⟨y, by rw [hk1 _ r1.root_mem]; exact hy, hh⟩
    have hfit2 : Fit S2.nodes k2 := by obtain ⟨y, hy, hh⟩ := f2; exact ⟨y, by rw [hk2 _ r2.root_mem]; exact hy, hh⟩
    let S3 : TS := { S2 with root := r }
    have hpre : Pre S3.nodes (h + 1) r (ins l i line) (r :: [us1, us2].flatten) :=
      ⟨[S.root, k2], [l1, l2], [us1, us2], 0, hget, by simp, ⟨⟨r1.congr hk1, hfit1⟩, ⟨r2.congr hk2, hfit2⟩, trivial⟩, by simp [e12], rfl⟩
    have hfl : [us1, us2].flatten = us1 ++ us2 := by simp
    have hp3 : Part (r :: [us1, us2].flatten) S3 := by rw [hfl]; exact hp2
    obtain ⟨xa, xa', ha1, ha2, ha3, ha4, ha5⟩ := sum_spec (S := S3) hpre hp3.nodupA (by simp only [cap, most] at *; omega)
    have hget3 : S3.nodes[r]? = some ⟨[], [S.root, k2], 0⟩ := hget
    rw [hget3] at ha1; cases ha1
    have hxa : (S3.setNode r xa').nodes[r]? = some xa' := set_get _ _ _ (List.getElem?_eq_some_iff.1 hget3).1
    have hm' : S'.make ⟨[], [S'.root, k2], 0⟩ = some (r, S2) := by rw [hroot]; exact hm
    simp only [hm']
    have hg' := hg.trans hg2
    refine ⟨S3.setNode r xa', ha2, h + 1, r :: [us1, us2].flatten, xa', ha3, hp3.set r xa', hxa, by simp [ND.size, ha4, ha5], fun _ => by simp [ha5], ?_, by omega⟩
    have hlen3 : (S3.setNode r xa').nodes.length = S2.nodes.length := by simp [S3, TS.setNode]
    rw [hlen3]
    by_cases hgrew : S.nodes.length < S2.nodes.length
    · have hf := hg'.full hgrew
      have hfew := ha3.few_root (fun y hy _ => by rw [hxa] at hy; cases hy; simp [ha5])
      have := hp2.length
      rw [hf] at this; simp at this
      simp at hfew
      omega
    · have := hg'.ge; omega

theorem Good.delete {S : TS} {l : List ByteArray} (h : Good S l) (i : Nat) (hi : i < l.length) :
    ∃ f S', TS.deleteTop f S i = some S' ∧ Good S' (l.eraseIdx i) := by
  obtain ⟨h, us, x, hr, hp, hx, h8, h2, hn, hm⟩ := h
  obtain ⟨z, S', us', xo, x', r1, _, r3, r4, _, r6, r7, r8, r9, r10, r11⟩ := remove_spec (h + 1) h S S.root l us [] i (by omega) hr ⟨x, hx, h8, h2⟩ (by simpa using hp) (by simp only [cap, most] at *; omega) (by simp only [cap, most] at *; omega) hi
  rw [hx] at r8; cases r8
  have hlen' : (l.eraseIdx i).length + 1 = l.length := by rw [List.length_eraseIdx_of_lt hi]; omega
  have r4' : Part us' S' := by simpa using r4
  refine ⟨h + 1, ?_⟩
  have hxr : S'.nodes[S'.root]? = some x' := by rw [r7]; exact r9
  simp only [TS.deleteTop, r1, hxr]
  cases h with
  | zero =>
    obtain ⟨hus, hx0⟩ := r3
    rw [r9] at hx0; cases hx0
    exact ⟨S', rfl, 0, us', _, by rw [r7]; exact ⟨hus, r9⟩, r4', hxr, by omega, fun hh => absurd rfl hh, by omega, by omega⟩
  | succ h =>
    have r3' := r3
    obtain ⟨kids, ls, uss, hk, hne, ha, hl, rfl⟩ := r3
    rw [r9] at hk; cases hk
    have hk2 : 2 ≤ kids.length ∨ kids.length = 1 := by
      have : kids.length ≠ 0 := fun e => hne (List.eq_nil_of_length_eq_zero e)
      omega
    rcases hk2 with hk2 | hk1
    · obtain ⟨k1, k2, kt, rfl⟩ : ∃ k1 k2 kt, kids = k1 :: k2 :: kt := by
        match kids, hk2 with
        | k1 :: k2 :: kt, _ => exact ⟨k1, k2, kt, rfl⟩
      exact ⟨S', rfl, h + 1, _, _, by rw [r7]; exact r3', r4', hxr, by omega, fun _ => hk2, by omega, by omega⟩
    · have hll := ha.lengths
      obtain ⟨kid, rfl⟩ := List.length_eq_one_iff.1 hk1
      obtain ⟨l0, rfl⟩ := List.length_eq_one_iff.1 (hll.1.trans hk1)
      obtain ⟨u0, rfl⟩ := List.length_eq_one_iff.1 (hll.2.trans hk1)
      · skip
        obtain ⟨⟨rk, y, hy, hy4, hy8⟩, _⟩ := ha
        simp only [List.flatten_cons, List.flatten_nil, List.append_nil] at r4' hl
        have hp4 : Part (S'.root :: u0) S' := by rw [r7]; exact r4'
        obtain ⟨S2, d1, d2, d3, d4, d5⟩ := drop_spec hp4 (by simp only [cap, most] at *; omega)
        have hnr : ∀ j, j ∈ u0 → j ≠ S'.root := fun j hj e => by have := hp4.nodupA; rw [List.nodup_cons] at this; exact this.1 (e ▸ hj)
        simp only [d1]
        refine ⟨_, rfl, h, u0, y, by rw [hl]; exact rk.congr fun j hj => d3 j (hnr j hj), d2, by show S2.nodes[kid]? = some y; rw [d3 kid (hnr kid rk.root_mem)]; exact hy, hy8, fun hh => ?_, by show S2.nodes.length ≤ _; omega, by omega⟩
        cases h with
        | zero => exact absurd rfl hh
        | succ h =>
          obtain ⟨kk, _, _, hxx, _⟩ := rk
          rw [hy] at hxx; cases hxx
          simp [ND.size] at hy4; simp; omega

end Go.Em

namespace Go.Em

theorem set_mid {α : Type} (a b c : List α) (j : Nat) (x : α) (h : j < b.length) : (a ++ b ++ c).set (a.length + j) x = a ++ b.set j x ++ c := by
  rw [List.append_assoc, List.set_append_right (a.length + j) x (by omega), Nat.add_sub_cancel_left, List.set_append_left j x h, List.append_assoc]

theorem at_spec : ∀ (f h : Nat) (S : TS) (k : Nat) (l : List ByteArray) (us : List Nat) (i : Nat), h < f → Rep S.nodes h k l us → us.Nodup → i < l.length →
    ∃ q j x, S.at_ f k i = some (q, j) ∧ q ∈ us ∧ S.nodes[q]? = some x ∧ x.kids = [] ∧ j < x.lines.length ∧ x.lines[j]? = l[i]? ∧
      ∀ line, Rep (S.setNode q ⟨x.lines.set j line, [], x.count⟩).nodes h k (l.set i line) us ∧
        ∀ y, S.nodes[k]? = some y → ∃ y', (S.setNode q ⟨x.lines.set j line, [], x.count⟩).nodes[k]? = some y' ∧ y'.size = y.size ∧ y'.kids = y.kids
  | 0, _, _, _, _, _, _, hf, _, _, _ => absurd hf (Nat.not_lt_zero _)
  | f + 1, 0, S, k, l, us, i, _, hr, _, hi => by
    obtain ⟨rfl, hx⟩ := hr
    have hlt := (List.getElem?_eq_some_iff.1 hx).1
    refine ⟨k, i, _, by simp [TS.at_, hx], by simp, hx, rfl, hi, rfl, fun line => ⟨⟨rfl, ?_⟩, fun y hy => ?_⟩⟩
    · rw [set_get _ _ _ hlt]; simp
    · rw [hx] at hy; cases hy
      exact ⟨_, set_get _ _ _ hlt, by simp [ND.size], rfl⟩
  | f + 1, h + 1, S, k, l, us, i, hf, hr, hnd, hi => by
    obtain ⟨kids, ls, uss, hx, hne0, ha, rfl, rfl⟩ := hr
    obtain ⟨n, j, hfind, hn, hij, _, hjlt⟩ := findGo_spec 0 i ha hne0 (Nat.le_of_lt hi)
    rw [Nat.zero_add] at hfind
    obtain ⟨kid, l0, u0, ek, el, eu, ⟨hrk, hfk⟩, hA, hB⟩ := ha.mid n hn
    have hlen := ha.lengths
    have hkid : kids[n]? = some kid := by rw [ek, List.getElem?_append_right (by simp [List.length_take]; omega)]; simp [List.length_take, Nat.min_eq_left (Nat.le_of_lt hn)]
    have hl0 : ls[n]? = some l0 := by rw [el, List.getElem?_append_right (by simp [List.length_take]; omega)]; simp [List.length_take, Nat.min_eq_left (show n ≤ ls.length by omega)]
    have hj := hjlt hi l0 hl0
    have elf : ls.flatten = (ls.take n).flatten ++ l0 ++ (ls.drop (n + 1)).flatten := by rw [← flatten_mid, ← el]
    have euf : uss.flatten = (uss.take n).flatten ++ u0 ++ (uss.drop (n + 1)).flatten := by rw [← flatten_mid, ← eu]
    generalize kids.take n = kA at *
    generalize kids.drop (n + 1) = kB at *
    generalize ls.take n = lA at *
    generalize ls.drop (n + 1) = lB at *
    generalize uss.take n = uA at *
    generalize uss.drop (n + 1) = uB at *
    rw [List.nodup_cons] at hnd
    have hnd2 := hnd.2
    rw [euf, List.nodup_append] at hnd2
    have hnd3 := List.nodup_append.1 hnd2.1
    obtain ⟨q, j', x, h1, h2, h3, h4, h5, h6, h7⟩ := at_spec f h S kid l0 u0 j (by omega) hrk hnd3.2.1 hj
    have hqin : q ∈ uss.flatten := by rw [euf]; simp [h2]
    have hqk : k ≠ q := fun e => hnd.1 (e ▸ hqin)
    refine ⟨q, j', x, ?_, by simp only [List.mem_cons]; exact .inr hqin, h3, h4, h5, ?_, fun line => ⟨?_, fun y hy => ?_⟩⟩
    · simp only [TS.at_, hx, if_neg hne0, hfind, hkid]; exact h1
    · rw [h6, elf, hij, List.append_assoc, List.getElem?_append_right (by omega), Nat.add_sub_cancel_left, List.getElem?_append_left hj]
    · obtain ⟨g1, g2⟩ := h7 line
      obtain ⟨xk, hxk, hk4, hk8⟩ := hfk
      obtain ⟨y', hy', hys, _⟩ := g2 xk hxk
      have hAq : ∀ j, j ∈ uA.flatten → j ≠ q := fun j hj e => hnd3.2.2 j hj q h2 e
      have hBq : ∀ j, j ∈ uB.flatten → j ≠ q := fun j hj e => hnd2.2.2 q (List.mem_append.2 (.inr h2)) j hj e.symm
      refine ⟨kA ++ kid :: kB, lA ++ l0.set j line :: lB, uA ++ u0 :: uB, ?_, by simp, ?_, ?_, ?_⟩
      · rw [set_other _ _ hqk, hx, ek]; simp
      · exact (hA.congr fun j hj => set_other _ _ (hAq j hj)).append ⟨⟨g1, y', hy', by omega, by omega⟩, hB.congr fun j hj => set_other _ _ (hBq j hj)⟩
      · rw [flatten_mid, elf, hij, set_mid _ _ _ _ _ hj]
      · rw [flatten_mid, ← euf]
    · rw [hx] at hy; cases hy
      exact ⟨_, by rw [set_other _ _ hqk]; exact hx, rfl, rfl⟩

theorem Good.at_ {S : TS} {l : List ByteArray} (h : Good S l) (i : Nat) (hi : i < l.length) :
    ∃ f q j x, S.at_ f S.root i = some (q, j) ∧ S.nodes[q]? = some x ∧ x.kids = [] ∧ j < x.lines.length ∧ x.lines[j]? = l[i]? ∧
      ∀ line, Good (S.setNode q ⟨x.lines.set j line, x.kids, x.count⟩) (l.set i line) := by
  obtain ⟨h, us, y, hr, hp, hy, h8, h2, hn, hm⟩ := h
  obtain ⟨q, j, x, h1, _, h3, h4, h5, h6, h7⟩ := at_spec (h + 1) h S S.root l us i (by omega) hr hp.nodupA hi
  refine ⟨h + 1, q, j, x, h1, h3, h4, h5, h6, fun line => ?_⟩
  rw [h4]
  obtain ⟨g1, g2⟩ := h7 line
  obtain ⟨y', hy', hs, hk⟩ := g2 y hy
  exact ⟨h, us, y', g1, hp.set _ _, hy', by omega, by rw [hk]; exact h2, by simpa [TS.setNode] using hn, by simpa using hm⟩

theorem walk_spec : ∀ (f h : Nat) (S : TS) (k : Nat) (l : List ByteArray) (us : List Nat), h < f → Rep S.nodes h k l us → S.walk f k = some l
  | 0, _, _, _, _, _, hf, _ => absurd hf (Nat.not_lt_zero _)
  | f + 1, 0, S, k, l, us, _, hr => by
    obtain ⟨rfl, hx⟩ := hr
    simp [TS.walk, hx, TS.walk.walkAll]
  | f + 1, h + 1, S, k, l, us, hf, hr => by
    obtain ⟨kids, ls, uss, hx, hne0, ha, rfl, rfl⟩ := hr
    simp only [TS.walk, hx]
    have : ∀ {ks ls us} (acc : List ByteArray), All3 (fun k l u => Rep S.nodes h k l u ∧ Fit S.nodes k) ks ls us → TS.walk.walkAll (S.walk f) ks acc = some (acc ++ ls.flatten) := by
      intro ks
      induction ks with
      | nil => intro ls us acc ha; cases ls <;> cases us <;> simp_all [All3, TS.walk.walkAll]
      | cons k ks ih =>
        intro ls us acc ha
        match ls, us, ha with
        | l :: ls, u :: us, ha =>
          simp only [TS.walk.walkAll, walk_spec f h S k l u (by omega) ha.1.1]
          rw [ih _ ha.2]; simp
    simpa using this [] ha

theorem Good.walk {S : TS} {l : List ByteArray} (h : Good S l) : ∃ f, S.walk f S.root = some l := by
  obtain ⟨h, us, y, hr, _⟩ := h
  exact ⟨h + 1, walk_spec _ _ _ _ _ _ (by omega) hr⟩

end Go.Em

/- A tree of lines, as a list of lines; the walk of New. -/
namespace Go.Proofs
open Go.RowKit Go.Em

/-- The tree at a block has these lines. -/
def TText (w : World) (tb : Nat) (l : List ByteArray) (F : Blocks) : Prop := ∃ S : TS, Go.Em.Good S l ∧ TMem w tb S F
/-- .. behind a call that changes it. -/
def TTPost (w : World) (F : Blocks) (w' : World) (tb : Nat) (l : List ByteArray) : Prop := ∃ S : TS, Go.Em.Good S l ∧ TPost w F w' tb S

theorem TTPost.text {w w' : World} {F : Blocks} {tb : Nat} {l : List ByteArray} (h : TTPost w F w' tb l) : TText w' tb l (Ext F w w') := by
  obtain ⟨S, g, p⟩ := h; exact ⟨S, g, p.mem⟩
theorem TTPost.keep {w w' : World} {F : Blocks} {tb : Nat} {l : List ByteArray} (h : TTPost w F w' tb l) : Keep w F w' := by
  obtain ⟨S, g, p⟩ := h; exact p.keep
theorem TTPost.trans {w w1 w2 : World} {F : Blocks} {tb : Nat} {l l2 : List ByteArray} (h : TTPost w F w1 tb l) (k : TTPost w1 (Ext F w w1) w2 tb l2) : TTPost w F w2 tb l2 := by
  obtain ⟨S, g, p⟩ := h
  obtain ⟨S2, g2, p2⟩ := k
  exact ⟨S2, g2, p.trans p2⟩
theorem TText.refl {w : World} {F : Blocks} {tb : Nat} {l : List ByteArray} (h : TText w tb l F) : TTPost w F w tb l := by
  obtain ⟨S, g, p⟩ := h; exact ⟨S, g, TPost.refl p⟩
theorem TText.lt {w : World} {F : Blocks} {tb : Nat} {l : List ByteArray} (h : TText w tb l F) : ∀ b, F b → b < w.heap.size := by
  obtain ⟨S, g, p⟩ := h; exact p.lt
theorem TText.keep {w w' : World} {F G : Blocks} {tb : Nat} {l : List ByteArray} (h : TText w tb l F) (hk : Keep w G w') (hn : ∀ b, F b → ¬ G b) : TText w' tb l F := by
  obtain ⟨S, g, p⟩ := h; exact ⟨S, g, p.keep hk hn⟩
theorem TText.mono {w : World} {F G : Blocks} {tb : Nat} {l : List ByteArray} (h : TText w tb l F) (hF : ∀ b, F b → G b) (hlt : ∀ b, G b → b < w.heap.size) : TText w tb l G := by
  obtain ⟨S, g, p⟩ := h; exact ⟨S, g, p.mono hF hlt⟩
theorem TText.most {w : World} {F : Blocks} {tb : Nat} {l : List ByteArray} (h : TText w tb l F) : l.length ≤ 100000 := by
  obtain ⟨S, g, p⟩ := h; exact g.bounds.2

theorem _root_.Go.Em.Good.setBytes {S : TS} {l : List ByteArray} (h : Go.Em.Good S l) (b : Int) : Go.Em.Good { S with bytes := b } l := h

theorem insert_text {w : World} {tb : Nat} {l : List ByteArray} {F : Blocks} (h : TText w tb l F) {i : Nat} (hi : i ≤ l.length) (hl : l.length < 100000) (line : ByteArray) :
    Calls Tryz.prog 42 #[.pointer (some ⟨tb, 0, none⟩), .int .i64 (i : Int), .string line] w fun e w' => e = .returned (.bool true) ∧ TTPost w F w' tb (ins l i line) := by
  obtain ⟨S, g, p⟩ := h
  obtain ⟨f, S', h1, g'⟩ := g.insert i line hi hl
  refine (Insert_calls p g.len hi (by omega) h1).mono ?_
  rintro e w' ⟨rfl, by_, p'⟩
  exact ⟨rfl, _, g'.setBytes by_, p'⟩
theorem insert_text_out {w : World} {tb : Nat} {l : List ByteArray} {F : Blocks} (h : TText w tb l F) {i : Int} (hi : i < 0 ∨ (l.length : Int) < i) (line : ByteArray) :
    Calls Tryz.prog 42 #[.pointer (some ⟨tb, 0, none⟩), .int .i64 i, .string line] w fun e w' => e = .returned (.bool false) ∧ TTPost w F w' tb l := by
  obtain ⟨S, g, p⟩ := h
  refine (Insert_out p g.len hi line).mono ?_
  rintro e w' ⟨rfl, p'⟩
  exact ⟨rfl, S, g, p'⟩
theorem len_text {w : World} {tb : Nat} {l : List ByteArray} {F : Blocks} (h : TText w tb l F) :
    Calls Tryz.prog 14 #[.pointer (some ⟨tb, 0, none⟩)] w fun e w' => e = .returned (.int .i64 (l.length : Int)) ∧ ∃ q, w' = w.drewN q := by
  obtain ⟨S, g, p⟩ := h
  exact len_calls p g.len

theorem rd_cell {w : World} {a : Option Addr} {n : Nat} {l : List ByteArray} (h : Rd w 1 a n (vstr l)) {i : Nat} {x : ByteArray} (hx : l[i]? = some x) : ∃ ad, a = some ad ∧ w.cell? (ad.add i) = some (.string x) := h.cells i _ (vstr_get hx)

theorem ins_end {α : Type} (l : List α) (i : Nat) (x : α) (hx : l[i]? = some x) : ins (l.take i) i x = l.take (i + 1) := by
  have hlt := (List.getElem?_eq_some_iff.1 hx).1
  rw [List.take_add_one, hx]
  simp [ins, List.take_take]

theorem make_node (w : World) : (Instr.makeSlice 78 (.int .i64 1) (.int .i64 1)).run Tryz.prog w = .ok (.slice (some ⟨w.heap.size, 0, none⟩) 1 1) (w.alloc (.cells #[.slice none 0 0, .slice none 0 0, .int .i64 0] 83)) := by
  have h := info_node
  obtain ⟨i, hi, he⟩ := Option.map_eq_some_iff.1 h
  simp only [Prod.mk.injEq] at he
  have := run_make (P := Tryz.prog) w 78 83 i (.agg #[.slice none 0 0, .slice none 0 0, .int .i64 0]) Tryz.underlying78 hi he.1 .i64 .i64 1 1 (by omega) (by omega) (by rw [he.2.2]; omega) (by omega)
  rw [he.2.1] at this
  have e : madeCells (Value.agg #[.slice none 0 0, .slice none 0 0, .int .i64 0]).cells 3 = #[.slice none 0 0, .slice none 0 0, .int .i64 0] := by kernel_rfl
  exact this.trans (by rw [show (Int.toNat 1 * 3) = 3 from rfl, e]; rfl)

set_option maxRecDepth 100000 in
set_option maxHeartbeats 1000000 in
/-- New: a tree of these lines. -/
theorem new_text {w : World} {a : Option Addr} {n c : Nat} {l : List ByteArray} (hr : Rd w 1 a n (vstr l)) (hn : n ≤ 100000) (hc : n ≤ c) (_hcm : c ≤ 9223372036854775807) :
    Calls Tryz.prog 23 #[.slice a n c] w fun e w' => ∃ tb F, e = .returned (.pointer (some ⟨tb, 0, none⟩)) ∧ TText w' tb l F ∧ Keep w NoB w' ∧ ∀ b, F b → w.heap.size ≤ b := by
  have HR : Kp _ := ⟨hr⟩
  have hll : l.length = n := by have := hr.len; rw [vstr_length, Nat.mul_one] at this; exact this
  clear hr
  have hmk := make_node
  go_enter Tryz.func23, Tryz.ntmps23
  go_wp2
  have hT0 : TText ((w.alloc (.cells #[.slice none 0 0, .slice none 0 0, .int .i64 0] 83)).alloc (.cells #[.slice (some ⟨w.heap.size, 0, none⟩) 1 1, .slice none 0 0, .int .i64 0, .int .i64 0] 81)) (w.heap.size + 1) []
      (fun b => b = w.heap.size + 1 ∨ b = w.heap.size) := by
    refine ⟨_, Go.Em.good_new, ⟨⟨⟨some ⟨w.heap.size, 0, none⟩, 1, some w.heap.size, none, 0, none, [⟨none, 0, none, none, 0, none⟩]⟩, ?_, ?_⟩, ?_⟩⟩
    · have h1 : (w.alloc (.cells #[.slice none 0 0, .slice none 0 0, .int .i64 0] 83)).heap.size = w.heap.size + 1 := by simp
      have h2 := heap_alloc_new (w.alloc (.cells #[.slice none 0 0, .slice none 0 0, .int .i64 0] 83)) (.cells #[.slice (some ⟨w.heap.size, 0, none⟩) 1 1, .slice none 0 0, .int .i64 0, .int .i64 0] 81)
      rw [h1] at h2
      have hs := Sl.made w 83 3 1 1 #[.slice none 0 0, .slice none 0 0, .int .i64 0] (by omega) (by omega) (by simp)
      have hs2 := hs.keep ((Keep.refl _ NoB).alloc (.cells #[.slice (some ⟨w.heap.size, 0, none⟩) 1 1, .slice none 0 0, .int .i64 0, .int .i64 0] 81)) fun _ _ h => h
      refine ⟨h2, hs2, Sl.nil _ _ _, rfl, ?_, ?_, ?_, ?_, ?_⟩
      · intro k r x hk hx
        match k with
        | 0 => simp at hk hx; subst hk; subst hx; exact Sl.nil _ _ _
        | k + 1 => simp at hk
      · intro k r x hk hx
        match k with
        | 0 => simp at hk hx; subst hk; subst hx; exact Sl.nil _ _ _
        | k + 1 => simp at hk
      · intro i j r r' g hi hj h
        match i with
        | 0 => simp at hi; subst hi; cases h
        | i + 1 => simp at hi
      · intro i j r r' g hi hj h
        match i with
        | 0 => simp at hi; subst hi; cases h
        | i + 1 => simp at hi
      · intro i r g hi h
        match i with
        | 0 => simp at hi; subst hi; cases h
        | i + 1 => simp at hi
    · intro b hb
      rcases hb with e | e | e | ⟨j, q, hj, e⟩
      · exact .inl e
      · cases e; exact .inr rfl
      · cases e
      · match j with
        | 0 => simp at hj; subst hj; rcases e with e | e <;> cases e
        | j + 1 => simp at hj
    · intro b hb
      simp
      omega
  have hK0 : Keep w NoB ((w.alloc (.cells #[.slice none 0 0, .slice none 0 0, .int .i64 0] 83)).alloc (.cells #[.slice (some ⟨w.heap.size, 0, none⟩) 1 1, .slice none 0 0, .int .i64 0, .int .i64 0] 81)) := ((Keep.refl w NoB).alloc _).alloc _
  generalize ((w.alloc (.cells #[.slice none 0 0, .slice none 0 0, .int .i64 0] 83)).alloc (.cells #[.slice (some ⟨w.heap.size, 0, none⟩) 1 1, .slice none 0 0, .int .i64 0, .int .i64 0] 81)) = W0 at *
  have HT0 : Kp _ := ⟨hT0⟩
  have HK0 : Kp _ := ⟨hK0⟩
  have HF : Kp (Fresh w NoB (fun b => b = w.heap.size + 1 ∨ b = w.heap.size)) := ⟨fun b hb => .inr (by omega)⟩
  clear hT0 hK0 hmk
  go_loopw [11] (fun a wr => ∃ i : Nat, i ≤ n ∧ a = .int .i64 (i : Int) ∧ Kp (TTPost W0 (fun b => b = w.heap.size + 1 ∨ b = w.heap.size) wr (w.heap.size + 1) (l.take i))) (fun a _ => n - (intOf a).toNat)
  case atStart => exact ⟨0, Nat.zero_le _, rfl, ⟨by simpa using HT0.out.refl⟩⟩
  case round =>
    obtain ⟨i, hi, rfl, HP⟩ := hrel
    by_cases hlt : i < n
    · have hx : l[i]? = some l[i] := List.getElem?_eq_getElem (by omega)
      obtain ⟨ad, hae, hcell⟩ := rd_cell (HR.out.keep ((HK0.out).trans HP.out.keep HF.out) fun _ _ h => h) hx
      subst hae
      have HX : Kp _ := ⟨hx⟩
      clear hx
      generalize l[i] = x at *
      go_wp2_with fail
      refine (insert_text HP.out.text (i := i) (by rw [List.length_take]; omega) (by rw [List.length_take]; omega) x).mono ?_
      rintro e w' ⟨rfl, p2⟩
      rw [ins_end _ _ _ HX.out] at p2
      have HP2 : Kp _ := ⟨HP.out.trans p2⟩
      clear p2
      go_wp2_with fail
      go_roundw
      case rel => exact ⟨i + 1, by omega, by go_num, HP2⟩
      case measure => simp [intOf]; omega
    · have hie : i = n := by omega
      subst hie
      go_wp2
      go_ret
      have hl : l.take l.length = l := List.take_length
      have ht := HP.out.text
      rw [hll.symm, hl] at ht
      refine ⟨_, _, rfl, ht, (HK0.out).trans HP.out.keep HF.out, fun b hb => ?_⟩
      have hs := HK0.out.size
      rcases hb with h | h
      · omega
      · omega

end Go.Proofs

/- Two nodes are written, one behind the other; what move is. -/
namespace Go.Proofs
open Go.RowKit Go.Em

theorem tm_cover2 {tb : Nat} {R : TR} {F : Blocks} {n0 : Nat} (hRF : ∀ b, R.F tb b → F b ∨ n0 ≤ b) {k : Nat} {r : RN} (hr : R.rs[k]? = some r) (r' : RN) (hl : ∀ g, r'.lb = some g → r.lb = some g ∨ n0 ≤ g) (hk : ∀ g, r'.kb = some g → r.kb = some g ∨ n0 ≤ g) :
    ∀ b, TR.F { R with rs := R.rs.set k r' } tb b → F b ∨ n0 ≤ b := by
  intro b hb
  rcases hb with e | e | e | ⟨j, q, hj, e⟩
  · exact hRF b (.inl e)
  · exact hRF b (.inr (.inl e))
  · exact hRF b (.inr (.inr (.inl e)))
  · by_cases hjk : j = k
    · subst hjk
      simp only at hj
      rw [List.getElem?_set_self (List.getElem?_eq_some_iff.1 hr).1] at hj
      cases hj
      rcases e with e | e
      · rcases hl b e with h | h
        · exact hRF b (.inr (.inr (.inr ⟨j, r, hr, .inl h⟩)))
        · exact .inr h
      · rcases hk b e with h | h
        · exact hRF b (.inr (.inr (.inr ⟨j, r, hr, .inr h⟩)))
        · exact .inr h
    · simp only at hj
      rw [List.getElem?_set_ne (Ne.symm hjk)] at hj
      exact hRF b (.inr (.inr (.inr ⟨j, q, hj, e⟩)))

theorem TM.setLines {w W : World} {tb : Nat} {S : TS} {R : TR} (hm : TM w tb S R) {k nb : Nat} {x : ND} {r : RN} (hx : S.nodes[k]? = some x) (hr : R.rs[k]? = some r) (hnb : R.nb = some nb)
    {a : Option Addr} {c : Nat} {b : Option Nat} (xs : List ByteArray) (hs : Sl W 9 1 a xs.length c (vstr xs) b) (hk : Keep w (Opt r.lb) W) (hf : Fresh w (Opt r.lb) (Opt b)) :
    TM (W.setCell ⟨nb, k * 3, none⟩ (.slice a xs.length c)) tb (S.setNode k ⟨xs, x.kids, x.count⟩) { R with rs := R.rs.set k ⟨a, c, b, r.ka, r.kc, r.kb⟩ } ∧ Keep w (fun b => R.nb = some b ∨ r.lb = some b) (W.setCell ⟨nb, k * 3, none⟩ (.slice a xs.length c)) := by
  have hsl := hm.lines hr hx
  have hsk := hm.kids hr hx
  have hnl := hm.nodes.lt hnb
  have hbn : ∀ g, b = some g → g ≠ nb := fun g hg e => by
    rcases hf g hg with h | h
    · exact hsl.types hm.nodes (by decide) h (e ▸ hnb)
    · omega
  have hkk : Keep w (fun b => R.nb = some b ∨ r.lb = some b ∨ r.kb = some b) (W.setCell ⟨nb, k * 3, none⟩ (.slice a xs.length c)) := (hk.mono fun b hb => .inr (.inl hb)).setCell (a := ⟨nb, k * 3, none⟩) (.inl (.inl hnb)) _
  have hn : Sl (W.setCell ⟨nb, k * 3, none⟩ (.slice a xs.length c)) 83 3 R.na S.nodes.length R.nc (flat (R.rs.set k ⟨a, c, b, r.ka, r.kc, r.kb⟩) (S.nodes.set k ⟨xs, x.kids, x.count⟩)) R.nb := by
    rw [flat_put0 hr hx]
    exact (hm.nodes.keep hk fun g hg e => hsl.types hm.nodes (by decide) e hg).put hnb _ _
  exact ⟨hm.replace hr hx ⟨a, c, b, r.ka, r.kc, r.kb⟩ ⟨xs, x.kids, x.count⟩ hn
    (hs.move fun g hg => Below.heap_setCell W ⟨nb, k * 3, none⟩ _ g (hbn g hg))
    (hsk.keep ((hk.mono (G := fun b => R.nb = some b ∨ r.lb = some b) fun b hb => .inr hb).setCell (a := ⟨nb, k * 3, none⟩) (.inl (.inl hnb)) _) fun g hg e => by
      rcases e with e | e
      · exact hsk.types hm.nodes (by decide) hg e
      · exact hsk.types hsl (by decide) hg e)
    (fun g hg => by
      rcases hf g hg with h | h
      · exact .inl h
      · exact .inr fun hh => by have := hm.lt hh; omega)
    (fun g hg => .inl hg) hkk, (hk.mono fun b hb => .inr hb).setCell (a := ⟨nb, k * 3, none⟩) (.inl (.inl hnb)) _⟩

theorem move_memLines {w W W2 : World} {tb : Nat} {S : TS} {F : Blocks} {R : TR} (hG : TMem w tb S F) (hm : TM w tb S R) (hRF : ∀ b, R.F tb b → F b) {k j nb : Nat} {x y : ND} {rx ry : RN} (hx : S.nodes[k]? = some x) (hy : S.nodes[j]? = some y) (hkj : k ≠ j)
    (hrx : R.rs[k]? = some rx) (hry : R.rs[j]? = some ry) (hnb : R.nb = some nb)
    {ya : Option Addr} {yc : Nat} {yb : Option Nat} (ys : List ByteArray) (hs : Sl W 9 1 ya ys.length yc (vstr ys) yb) (hk : Keep w (Opt ry.lb) W) (hf : Fresh w (Opt ry.lb) (Opt yb))
    (xs : List ByteArray) (hs2 : Sl W2 9 1 rx.la xs.length rx.lc (vstr xs) rx.lb) (hk2 : Keep (W.setCell ⟨nb, j * 3, none⟩ (.slice ya ys.length yc)) (Opt rx.lb) W2) :
    TPost w F (W2.setCell ⟨nb, k * 3, none⟩ (.slice rx.la xs.length rx.lc)) tb ((S.setNode j ⟨ys, y.kids, y.count⟩).setNode k ⟨xs, x.kids, x.count⟩) := by
  obtain ⟨m1, k1⟩ := TM.setLines hm hy hry hnb ys hs hk hf
  have hx1 : (S.setNode j ⟨ys, y.kids, y.count⟩).nodes[k]? = some x := by rw [TS.set_far _ hkj]; exact hx
  have hr1 : (TR.rs { R with rs := R.rs.set j ⟨ya, yc, yb, ry.ka, ry.kc, ry.kb⟩ })[k]? = some rx := by
    simp only
    rw [List.getElem?_set_ne (Ne.symm hkj)]
    exact hrx
  obtain ⟨m2, k2⟩ := TM.setLines m1 (nb := nb) hx1 hr1 hnb xs hs2 hk2 (Fresh.refl _ _)
  refine TPost.of hG m2 ((k1.mono (G := F) fun b hb => ?_).trans (k2.mono (G := F) fun b hb => ?_) (Fresh.refl _ _)) (tm_cover2 (tm_cover2 (fun b hb => .inl (hRF b hb)) hry _ ?_ ?_) hr1 _ ?_ ?_)
  · rcases hb with e | e
    · exact hRF b (.inr (.inl e))
    · exact hRF b (.inr (.inr (.inr ⟨j, ry, hry, .inl e⟩)))
  · rcases hb with e | e
    · exact hRF b (.inr (.inl e))
    · exact hRF b (.inr (.inr (.inr ⟨k, rx, hrx, .inl e⟩)))
  all_goals first
    | exact fun g hg => .inl hg
    | exact fun g hg => hf g hg

theorem TM.setKids {w W : World} {tb : Nat} {S : TS} {R : TR} (hm : TM w tb S R) {k nb : Nat} {x : ND} {r : RN} (hx : S.nodes[k]? = some x) (hr : R.rs[k]? = some r) (hnb : R.nb = some nb)
    {a : Option Addr} {c : Nat} {b : Option Nat} (xs : List Nat) (hs : Sl W 3 1 a xs.length c (vint xs) b) (hk : Keep w (Opt r.kb) W) (hf : Fresh w (Opt r.kb) (Opt b)) :
    TM (W.setCell ⟨nb, k * 3 + 1, none⟩ (.slice a xs.length c)) tb (S.setNode k ⟨x.lines, xs, x.count⟩) { R with rs := R.rs.set k ⟨r.la, r.lc, r.lb, a, c, b⟩ } ∧ Keep w (fun b => R.nb = some b ∨ r.kb = some b) (W.setCell ⟨nb, k * 3 + 1, none⟩ (.slice a xs.length c)) := by
  have hsl := hm.lines hr hx
  have hsk := hm.kids hr hx
  have hnl := hm.nodes.lt hnb
  have hbn : ∀ g, b = some g → g ≠ nb := fun g hg e => by
    rcases hf g hg with h | h
    · exact hsk.types hm.nodes (by decide) h (e ▸ hnb)
    · omega
  have hkk : Keep w (fun b => R.nb = some b ∨ r.lb = some b ∨ r.kb = some b) (W.setCell ⟨nb, k * 3 + 1, none⟩ (.slice a xs.length c)) := (hk.mono fun b hb => .inr (.inr hb)).setCell (a := ⟨nb, k * 3 + 1, none⟩) (.inl (.inl hnb)) _
  have hn : Sl (W.setCell ⟨nb, k * 3 + 1, none⟩ (.slice a xs.length c)) 83 3 R.na S.nodes.length R.nc (flat (R.rs.set k ⟨r.la, r.lc, r.lb, a, c, b⟩) (S.nodes.set k ⟨x.lines, xs, x.count⟩)) R.nb := by
    rw [flat_put1 hr hx]
    exact (hm.nodes.keep hk fun g hg e => hsk.types hm.nodes (by decide) e hg).put hnb _ _
  exact ⟨hm.replace hr hx ⟨r.la, r.lc, r.lb, a, c, b⟩ ⟨x.lines, xs, x.count⟩ hn
    (hsl.keep ((hk.mono (G := fun b => R.nb = some b ∨ r.kb = some b) fun b hb => .inr hb).setCell (a := ⟨nb, k * 3 + 1, none⟩) (.inl (.inl hnb)) _) fun g hg e => by
      rcases e with e | e
      · exact hsl.types hm.nodes (by decide) hg e
      · exact hsl.types hsk (by decide) hg e)
    (hs.move fun g hg => Below.heap_setCell W ⟨nb, k * 3 + 1, none⟩ _ g (hbn g hg))
    (fun g hg => .inl hg)
    (fun g hg => by
      rcases hf g hg with h | h
      · exact .inl h
      · exact .inr fun hh => by have := hm.lt hh; omega) hkk, (hk.mono fun b hb => .inr hb).setCell (a := ⟨nb, k * 3 + 1, none⟩) (.inl (.inl hnb)) _⟩

theorem move_memKids {w W W2 : World} {tb : Nat} {S : TS} {F : Blocks} {R : TR} (hG : TMem w tb S F) (hm : TM w tb S R) (hRF : ∀ b, R.F tb b → F b) {k j nb : Nat} {x y : ND} {rx ry : RN} (hx : S.nodes[k]? = some x) (hy : S.nodes[j]? = some y) (hkj : k ≠ j)
    (hrx : R.rs[k]? = some rx) (hry : R.rs[j]? = some ry) (hnb : R.nb = some nb)
    {ya : Option Addr} {yc : Nat} {yb : Option Nat} (ys : List Nat) (hs : Sl W 3 1 ya ys.length yc (vint ys) yb) (hk : Keep w (Opt ry.kb) W) (hf : Fresh w (Opt ry.kb) (Opt yb))
    (xs : List Nat) (hs2 : Sl W2 3 1 rx.ka xs.length rx.kc (vint xs) rx.kb) (hk2 : Keep (W.setCell ⟨nb, j * 3 + 1, none⟩ (.slice ya ys.length yc)) (Opt rx.kb) W2) :
    TPost w F (W2.setCell ⟨nb, k * 3 + 1, none⟩ (.slice rx.ka xs.length rx.kc)) tb ((S.setNode j ⟨y.lines, ys, y.count⟩).setNode k ⟨x.lines, xs, x.count⟩) := by
  obtain ⟨m1, k1⟩ := TM.setKids hm hy hry hnb ys hs hk hf
  have hx1 : (S.setNode j ⟨y.lines, ys, y.count⟩).nodes[k]? = some x := by rw [TS.set_far _ hkj]; exact hx
  have hr1 : (TR.rs { R with rs := R.rs.set j ⟨ry.la, ry.lc, ry.lb, ya, yc, yb⟩ })[k]? = some rx := by
    simp only
    rw [List.getElem?_set_ne (Ne.symm hkj)]
    exact hrx
  obtain ⟨m2, k2⟩ := TM.setKids m1 (nb := nb) hx1 hr1 hnb xs hs2 hk2 (Fresh.refl _ _)
  refine TPost.of hG m2 ((k1.mono (G := F) fun b hb => ?_).trans (k2.mono (G := F) fun b hb => ?_) (Fresh.refl _ _)) (tm_cover2 (tm_cover2 (fun b hb => .inl (hRF b hb)) hry _ ?_ ?_) hr1 _ ?_ ?_)
  · rcases hb with e | e
    · exact hRF b (.inr (.inl e))
    · exact hRF b (.inr (.inr (.inr ⟨j, ry, hry, .inr e⟩)))
  · rcases hb with e | e
    · exact hRF b (.inr (.inl e))
    · exact hRF b (.inr (.inr (.inr ⟨k, rx, hrx, .inr e⟩)))
  all_goals first
    | exact fun g hg => .inl hg
    | exact fun g hg => hf g hg

theorem TS.set_comm (S : TS) {k j : Nat} (x y : ND) (h : k ≠ j) : (S.setNode k x).setNode j y = (S.setNode j y).setNode k x := by
  simp only [TS.setNode, List.set_comm _ _ h]

theorem move_inv {S S' : TS} {a b : Nat} {back : Bool} (h : S.move a b back = some S') :
    ∃ x y x' y' S2, S.nodes[a]? = some x ∧ S.nodes[b]? = some y ∧ a ≠ b ∧ y.lines.length < 1048576 ∧ y.kids.length < 1048576 ∧ ((S.setNode b y').setNode a x').sum a = some S2 ∧ S2.sum b = some S' ∧
      ((x.kids = [] ∧ back = true ∧ ∃ m z, x.lines.length = m + 1 ∧ x.lines[m]? = some z ∧ x' = ⟨x.lines.take m, x.kids, x.count⟩ ∧ y' = ⟨z :: y.lines, y.kids, y.count⟩) ∨
       (x.kids = [] ∧ back = false ∧ ∃ z, x.lines[0]? = some z ∧ x' = ⟨x.lines.eraseIdx 0, x.kids, x.count⟩ ∧ y' = ⟨y.lines ++ [z], y.kids, y.count⟩) ∨
       (x.kids ≠ [] ∧ back = true ∧ ∃ m z, x.kids.length = m + 1 ∧ x.kids[m]? = some z ∧ x' = ⟨x.lines, x.kids.take m, x.count⟩ ∧ y' = ⟨y.lines, z :: y.kids, y.count⟩) ∨
       (x.kids ≠ [] ∧ back = false ∧ ∃ z, x.kids[0]? = some z ∧ x' = ⟨x.lines, x.kids.eraseIdx 0, x.count⟩ ∧ y' = ⟨y.lines, y.kids ++ [z], y.count⟩)) := by
  have last : ∀ {α : Type} {l : List α} {z : α}, l.getLast? = some z → ∃ m, l.length = m + 1 ∧ l[m]? = some z ∧ l.dropLast = l.take m := by
    intro α l z h
    rw [List.getLast?_eq_getElem?] at h
    have := (List.getElem?_eq_some_iff.1 h).1
    exact ⟨l.length - 1, by omega, h, List.dropLast_eq_take⟩
  unfold TS.move at h
  split at h
  case h_2 => cases h
  rename_i x y hx hy
  split at h
  · cases h
  rename_i hc
  have hab : a ≠ b := fun e => hc (.inl e)
  have hl : y.lines.length < 1048576 := by simp only [cap] at hc; omega
  have hk : y.kids.length < 1048576 := by simp only [cap] at hc; omega
  dsimp only at h
  split at h
  · cases h
  rename_i x' y' hr
  split at h
  · cases h
  rename_i S2 h2
  rw [TS.set_comm S x' y' hab] at h2
  refine ⟨x, y, x', y', S2, hx, hy, hab, hl, hk, h2, h, ?_⟩
  split at hr
  · rename_i hk0
    split at hr
    · rename_i hb
      split at hr
      · cases hr
      rename_i z hz
      obtain ⟨m, e1, e2, e3⟩ := last hz
      obtain ⟨rfl, rfl⟩ := Prod.mk.inj (Option.some.inj hr)
      exact .inl ⟨hk0, hb, m, z, e1, e2, by rw [e3], rfl⟩
    · rename_i hb
      split at hr
      · cases hr
      rename_i z zs hz
      obtain ⟨rfl, rfl⟩ := Prod.mk.inj (Option.some.inj hr)
      exact .inr (.inl ⟨hk0, by simpa using hb, z, by simp [hz], by simp [hz], rfl⟩)
  · rename_i hk0
    split at hr
    · rename_i hb
      split at hr
      · cases hr
      rename_i z hz
      obtain ⟨m, e1, e2, e3⟩ := last hz
      obtain ⟨rfl, rfl⟩ := Prod.mk.inj (Option.some.inj hr)
      exact .inr (.inr (.inl ⟨hk0, hb, m, z, e1, e2, by rw [e3], rfl⟩))
    · rename_i hb
      split at hr
      · cases hr
      rename_i z zs hz
      obtain ⟨rfl, rfl⟩ := Prod.mk.inj (Option.some.inj hr)
      exact .inr (.inr (.inr ⟨hk0, by simpa using hb, z, by simp [hz], by simp [hz], rfl⟩))

end Go.Proofs

/- What merge is; a node's cells. -/
namespace Go.Proofs
open Go.RowKit Go.Em

theorem TM.cells {w : World} {tb : Nat} {S : TS} {R : TR} (h : TM w tb S R) {k nb : Nat} {x : ND} {r : RN} (hx : S.nodes[k]? = some x) (hr : R.rs[k]? = some r) (hnb : R.nb = some nb) :
    w.cell? ⟨tb, 0, none⟩ = some (.slice (some ⟨nb, 0, none⟩) S.nodes.length R.nc) ∧ k < S.nodes.length ∧ S.nodes.length ≤ R.nc ∧ R.nc ≤ 9223372036854775807 ∧
      w.cell? ⟨nb, k * 3, none⟩ = some (.slice r.la x.lines.length r.lc) ∧ w.cell? ⟨nb, k * 3 + 1, none⟩ = some (.slice r.ka x.kids.length r.kc) ∧ w.cell? ⟨nb, k * 3 + 2, none⟩ = some (.int .i64 (x.count : Int)) := by
  obtain ⟨nb', r', h1, h2, h3, h4, h5, h6, h7⟩ := h.node hx
  rw [hnb] at h1; cases h1
  rw [hr] at h3; cases h3
  have h0 := h.cell0
  rw [h2] at h0
  exact ⟨h0, h4, h5, h6, h7⟩

theorem merge_inv {S S' : TS} {k n : Nat} (h : S.merge k n = some S') :
    ∃ v a b x y S2, S.nodes[k]? = some v ∧ v.kids[n]? = some a ∧ v.kids[n + 1]? = some b ∧ a ≠ b ∧ k ≠ a ∧ k ≠ b ∧ S.nodes[a]? = some x ∧ S.nodes[b]? = some y ∧
      x.lines.length + y.lines.length < 1048576 ∧ x.kids.length + y.kids.length < 1048576 ∧ (S.setNode a ⟨x.lines ++ y.lines, x.kids ++ y.kids, x.count⟩).drop b = some S2 ∧
      (S2.setNode k ⟨v.lines, v.kids.eraseIdx (n + 1), v.count⟩).sum a = some S' := by
  unfold TS.merge at h
  split at h
  · cases h
  rename_i v hv
  split at h
  case h_2 => cases h
  rename_i a b ha hb
  split at h
  · cases h
  rename_i hc
  split at h
  case h_2 => cases h
  rename_i x y hx hy
  split at h
  case isFalse => cases h
  rename_i hcap
  split at h
  · cases h
  rename_i S2 hd
  exact ⟨v, a, b, x, y, S2, hv, ha, hb, fun e => hc (.inl e), fun e => hc (.inr (.inl e)), fun e => hc (.inr (.inr e)), hx, hy, hcap.1, hcap.2, hd, h⟩

theorem drop_nodes {S S' : TS} {b : Nat} (h : S.drop b = some S') : S' = { S with nodes := S.nodes.set b ⟨[], [], 0⟩, free := S.free ++ [b] } := by
  unfold TS.drop at h
  split at h
  · split at h
    · exact (Option.some.inj h).symm
    · cases h
  · cases h

end Go.Proofs

/- The walk of the tree's merge. -/
namespace Go.Proofs
open Go.RowKit Go.Em

theorem _root_.Go.Em.TPost.more {w w1 w2 : World} {F : Blocks} {tb : Nat} {S1 S2 : TS} {R2 : TR} (P : TPost w F w1 tb S1) (m : TM w2 tb S2 R2) (k : Keep w1 (Ext F w w1) w2) (cov : ∀ b, R2.F tb b → F b ∨ w.heap.size ≤ b) : TPost w F w2 tb S2 :=
  P.trans (TPost.of P.mem m k fun b hb => by
    rcases cov b hb with h | h
    · exact .inl (.inl h)
    · by_cases hlt : b < w1.heap.size
      · exact .inl (.inr ⟨h, hlt⟩)
      · exact .inr (by omega))

theorem drop_cover {tb : Nat} {R : TR} {F : Blocks} {n0 : Nat} (hRF : ∀ b, R.F tb b → F b ∨ n0 ≤ b) {k : Nat} (fa : Option Addr) (fc : Nat) (fb : Option Nat) (hf : ∀ g, fb = some g → R.fb = some g ∨ n0 ≤ g) :
    ∀ b, TR.F { R with rs := R.rs.set k ⟨none, 0, none, none, 0, none⟩, fa := fa, fc := fc, fb := fb } tb b → F b ∨ n0 ≤ b := by
  intro b hb
  rcases hb with e | e | e | ⟨j, q, hj, e⟩
  · exact hRF b (.inl e)
  · exact hRF b (.inr (.inl e))
  · rcases hf b e with h | h
    · exact hRF b (.inr (.inr (.inl h)))
    · exact .inr h
  · by_cases hjk : j = k
    · subst hjk
      simp only at hj
      rw [List.getElem?_set] at hj
      simp at hj
      obtain ⟨_, rfl⟩ := hj
      rcases e with e | e <;> cases e
    · simp only at hj
      rw [List.getElem?_set_ne (Ne.symm hjk)] at hj
      exact hRF b (.inr (.inr (.inr ⟨j, q, hj, e⟩)))

set_option maxRecDepth 100000 in
set_option maxHeartbeats 4000000 in
theorem merge_calls {w : World} {tb : Nat} {S S' : TS} {F : Blocks} (h : TMem w tb S F) {k n : Nat} (hs : S.merge k n = some S') :
    Calls Tryz.prog 170 #[.pointer (some ⟨tb, 0, none⟩), .int .i64 (k : Int), .int .i64 (n : Int)] w fun e w' => e = .returned (.tuple #[]) ∧ TPost w F w' tb S' := by
  have HGw : Kp _ := ⟨h⟩
  obtain ⟨v, a, b, x, y, S2, hv, ha, hb, hab, hka, hkb, hx, hy, hll, hlk, hd, hsm⟩ := merge_inv hs
  obtain ⟨⟨R, hmw, hRF⟩, hFlt⟩ := h
  obtain ⟨nb, rv, hnb, hna, hrv, -⟩ := hmw.node hv
  obtain ⟨-, rx, -, -, hrx, -⟩ := hmw.node hx
  obtain ⟨-, ry, -, -, hry, -⟩ := hmw.node hy
  obtain ⟨h0, hkl, hle, hmax, -, c1, -⟩ := TM.cells hmw hv hrv hnb
  obtain ⟨-, hal, -⟩ := TM.cells hmw hx hrx hnb
  obtain ⟨-, hbl, -⟩ := TM.cells hmw hy hry hnb
  have hvk := hmw.kids hrv hv
  have hnl1 : n + 1 < v.kids.length := (List.getElem?_eq_some_iff.1 hb).1
  obtain ⟨vb, hvb, hva⟩ := hvk.nonnil (by omega)
  have ca := hvk.cell hvb (vint_get ha)
  have cb := hvk.cell hvb (vint_get hb)
  rw [hva] at c1
  have hvc := hvk.le
  have hvm := hvk.max
  have hn2 : n + 1 < 9223372036854775807 := by omega
  have HMw : Kp _ := ⟨hmw⟩
  have HRF : Kp _ := ⟨hRF⟩
  have HV : Kp _ := ⟨hv⟩
  have HX : Kp _ := ⟨hx⟩
  have HY : Kp _ := ⟨hy⟩
  have HRV : Kp _ := ⟨hrv⟩
  have HRX : Kp _ := ⟨hrx⟩
  have HRY : Kp _ := ⟨hry⟩
  have HNB : Kp _ := ⟨hnb⟩
  have HD : Kp _ := ⟨hd⟩
  have HSM : Kp _ := ⟨hsm⟩
  have HAB : Kp _ := ⟨hab⟩
  have HKA : Kp _ := ⟨hka⟩
  have HKB : Kp _ := ⟨hkb⟩
  have HVB : Kp _ := ⟨hvb⟩
  have HVA : Kp _ := ⟨hva⟩
  clear hmw hRF hFlt hs hv hx hy hrv hrx hry hnb hna hd hsm hab hka hkb hvb hva ha hb hvk
  go_enter Tryz.func170, Tryz.ntmps170
  go_wp2_with fail
  go_quiet (fail)
  revert nq
  intro nq1
  go_wp2_with fail
  go_quiet (fail)
  go_wp2_with fail
  have HM : Kp (TM ((w.drewN nq1).drewN nq) tb S R) := ⟨(HMw.out.drewN nq1).drewN nq⟩
  have HG : Kp (TMem ((w.drewN nq1).drewN nq) tb S F) := ⟨(HGw.out.drewN nq1).drewN nq⟩
  have HK0 : Kp (Keep w F ((w.drewN nq1).drewN nq)) := ⟨((Keep.refl w F).drewN nq1).drewN nq⟩
  have HF0 : Kp (∀ b, F b → b < w.heap.size) := ⟨HGw.out.lt⟩
  generalize (w.drewN nq1).drewN nq = W0 at *
  clear HMw HGw h0 c1 ca cb
  obtain ⟨-, -, -, -, q0, -, -⟩ := TM.cells HM.out HX.out HRX.out HNB.out
  obtain ⟨-, -, -, -, q1, -, -⟩ := TM.cells HM.out HY.out HRY.out HNB.out
  have hxs := HM.out.lines HRX.out HX.out
  have hys := HM.out.lines HRY.out HY.out
  try dsimp only at q0 q1 hxs hys
  have hxm := hxs.max
  have hym := hys.max
  have hxle := hxs.le
  have hyle := hys.le
  have HXS : Kp _ := ⟨hxs.keep (Keep.refl W0 NoB).drew fun _ _ h => h⟩
  have HYR : Kp _ := ⟨Rd.of_sl (hys.keep (Keep.refl W0 NoB).drew fun _ _ h => h) (vstr_one _)⟩
  have Q0 : Kp (W0.drew.cell? ⟨nb, a * 3, none⟩ = _) := ⟨q0⟩
  have Q1 : Kp (W0.drew.cell? ⟨nb, b * 3, none⟩ = _) := ⟨q1⟩
  have hnbl : nb < W0.heap.size := HM.out.nodes.lt HNB.out
  have z0 : W0.frozen? ⟨nb, a * 3, none⟩ = false := HM.out.nodes.frozen HNB.out _
  clear hxs hys
  refine wp_region_plan (fun W => W.cell? ⟨nb, a * 3, none⟩ = some (.slice rx.la x.lines.length rx.lc) ∧ W.cell? ⟨nb, b * 3, none⟩ = some (.slice ry.la y.lines.length ry.lc))
    [(true, 0), (true, 1), (true, 2), (true, 3), (true, 4), (true, 5), (true, 6), (true, 7), (true, 8), (false, 9)] 10 (by kernel_rfl) (by kernel_rfl) (fun _ _ d _ _ h => by cases d <;> exact h) (by go_simp) ?_
  iterate 9
    (refine' plan_read _ rfl rfl ?_ ?_
     rotate_left
     · (intro W hW; (try dsimp only at hW); go_simp; try rfl)
     simp only [Act.put, List.setIfInBounds_toArray, List.set_cons_zero, List.set_cons_succ])
  refine plan_do _ rfl ?_
  go_wp2_with (at_builtin; go_must (refine wpList_append_rd rfl _ _ 22 rfl 9 _ 1 16 Tryz.underlying22 info_str rfl (by decide) HXS.out rfl HYR.out rfl (by omega) (by omega) ?_); intro a' c' b' w' h2 h3 h4)
  try simp only [Act.put, List.setIfInBounds_toArray, List.set_cons_zero, List.set_cons_succ]
  have hbn : ¬ Opt rx.lb nb := fun h => HXS.out.types HM.out.drew.nodes (by decide) h HNB.out
  have e0 := h3.cell Q0.out hbn
  have e1 := h3.cell Q1.out hbn
  have z1 : w'.frozen? ⟨nb, a * 3, none⟩ = false := by rw [h3.frozen hnbl hbn]; exact z0
  refine ⟨⟨e0, e1⟩, plan_end ?_⟩
  try simp only [List.drop_succ_cons, List.drop_zero]
  have hv : vstr x.lines ++ vstr y.lines = vstr (x.lines ++ y.lines) := by simp [vstr]
  rw [hv] at h2
  have hlen : x.lines.length + y.lines.length = (x.lines ++ y.lines).length := by simp
  have hle2 := h2.le
  have hmax2 := h2.max
  rw [hlen] at h2
  have hset := TM.setLines HM.out.drew HX.out HRX.out HNB.out (x.lines ++ y.lines) h2 h3 h4
  rw [← hlen] at hset
  have HSET : Kp _ := ⟨hset⟩
  have HFR : Kp _ := ⟨h4⟩
  clear hset h2 h3 h4 hbn hv hlen q0 q1 z0 HXS HYR hnbl Q0 Q1
  go_wp2_with fail
  clear e0 e1 z1
  generalize hW1 : w'.setCell ⟨nb, a * 3, none⟩ (.slice a' (x.lines.length + y.lines.length) c') = W1
  rw [hW1] at HSET
  have HM1 : Kp _ := ⟨HSET.out.1⟩
  have HKP1 : Kp (Keep W0 _ W1) := ⟨((Keep.refl W0 _).drew).trans HSET.out.2 (Fresh.refl _ _)⟩
  have HCV1 : Kp _ := ⟨tm_cover2 (fun b hb => .inl (HRF.out b hb)) HRX.out ⟨a', c', b', rx.ka, rx.kc, rx.kb⟩ (show Fresh W0 _ _ from HFR.out) (fun g hg => .inl hg)⟩
  have HX1 : Kp ((S.setNode a ⟨x.lines ++ y.lines, x.kids, x.count⟩).nodes[a]? = some ⟨x.lines ++ y.lines, x.kids, x.count⟩) := ⟨TS.set_get _ HX.out⟩
  have HY1 : Kp ((S.setNode a ⟨x.lines ++ y.lines, x.kids, x.count⟩).nodes[b]? = some y) := ⟨by rw [TS.set_far _ (Ne.symm HAB.out)]; exact HY.out⟩
  have HV1 : Kp ((S.setNode a ⟨x.lines ++ y.lines, x.kids, x.count⟩).nodes[k]? = some v) := ⟨by rw [TS.set_far _ HKA.out]; exact HV.out⟩
  have HRX1 : Kp ((TR.rs { R with rs := R.rs.set a ⟨a', c', b', rx.ka, rx.kc, rx.kb⟩ })[a]? = some ⟨a', c', b', rx.ka, rx.kc, rx.kb⟩) := ⟨by
    simp only; rw [List.getElem?_set_self (List.getElem?_eq_some_iff.1 HRX.out).1]⟩
  have HRY1 : Kp ((TR.rs { R with rs := R.rs.set a ⟨a', c', b', rx.ka, rx.kc, rx.kb⟩ })[b]? = some ry) := ⟨by
    simp only; rw [List.getElem?_set_ne HAB.out]; exact HRY.out⟩
  have HRV1 : Kp ((TR.rs { R with rs := R.rs.set a ⟨a', c', b', rx.ka, rx.kc, rx.kb⟩ })[k]? = some rv) := ⟨by
    simp only; rw [List.getElem?_set_ne (Ne.symm HKA.out)]; exact HRV.out⟩
  have HP1 : Kp (TPost W0 F W1 tb (S.setNode a ⟨x.lines ++ y.lines, x.kids, x.count⟩)) := ⟨TPost.of HG.out HM1.out (HKP1.out.mono (G := F) fun b hb => by
    rcases hb with e | e
    · exact HRF.out b (.inr (.inl e))
    · exact HRF.out b (.inr (.inr (.inr ⟨a, rx, HRX.out, .inl e⟩)))) HCV1.out⟩
  clear hW1 HSET HFR hle2 hmax2
  obtain ⟨-, -, -, -, -, q0, -⟩ := TM.cells HM1.out HX1.out HRX1.out HNB.out
  obtain ⟨-, -, -, -, -, q1, -⟩ := TM.cells HM1.out HY1.out HRY1.out HNB.out
  have hxs := HM1.out.kids HRX1.out HX1.out
  have hys := HM1.out.kids HRY1.out HY1.out
  try dsimp only at q0 q1 hxs hys
  have hxm := hxs.max
  have hym := hys.max
  have hxle := hxs.le
  have hyle := hys.le
  have HXS : Kp _ := ⟨hxs.keep (Keep.refl W1 NoB).drew fun _ _ h => h⟩
  have HYR : Kp _ := ⟨Rd.of_sl (hys.keep (Keep.refl W1 NoB).drew fun _ _ h => h) (vint_one _)⟩
  have Q0 : Kp (W1.drew.cell? ⟨nb, a * 3 + 1, none⟩ = _) := ⟨q0⟩
  have Q1 : Kp (W1.drew.cell? ⟨nb, b * 3 + 1, none⟩ = _) := ⟨q1⟩
  have hnbl : nb < W1.heap.size := HM1.out.nodes.lt HNB.out
  have z0 : W1.frozen? ⟨nb, a * 3 + 1, none⟩ = false := HM1.out.nodes.frozen HNB.out _
  clear hxs hys
  refine wp_region_plan (fun W => W.cell? ⟨nb, a * 3 + 1, none⟩ = some (.slice rx.ka x.kids.length rx.kc) ∧ W.cell? ⟨nb, b * 3 + 1, none⟩ = some (.slice ry.ka y.kids.length ry.kc))
    [(true, 0), (true, 1), (true, 2), (true, 3), (true, 4), (true, 5), (true, 6), (true, 7), (true, 8), (false, 9)] 10 (by kernel_rfl) (by kernel_rfl) (fun _ _ d _ _ h => by cases d <;> exact h) (by go_simp) ?_
  iterate 9
    (refine' plan_read _ rfl rfl ?_ ?_
     rotate_left
     · (intro W hW; (try dsimp only at hW); go_simp; try rfl)
     simp only [Act.put, List.setIfInBounds_toArray, List.set_cons_zero, List.set_cons_succ])
  refine plan_do _ rfl ?_
  go_wp2_with (at_builtin; go_must (refine wpList_append_rd rfl _ _ 79 rfl 3 _ 1 8 Tryz.underlying79 info_int rfl (by decide) HXS.out rfl HYR.out rfl (by omega) (by omega) ?_); intro a2 c2 b2 w2 h2 h3 h4)
  try simp only [Act.put, List.setIfInBounds_toArray, List.set_cons_zero, List.set_cons_succ]
  have hbn : ¬ Opt rx.kb nb := fun h => HXS.out.types HM1.out.drew.nodes (by decide) h HNB.out
  have e0 := h3.cell Q0.out hbn
  have e1 := h3.cell Q1.out hbn
  have z1 : w2.frozen? ⟨nb, a * 3 + 1, none⟩ = false := by rw [h3.frozen hnbl hbn]; exact z0
  refine ⟨⟨e0, e1⟩, plan_end ?_⟩
  try simp only [List.drop_succ_cons, List.drop_zero]
  have hv : vint x.kids ++ vint y.kids = vint (x.kids ++ y.kids) := by simp [vint]
  rw [hv] at h2
  have hlen : x.kids.length + y.kids.length = (x.kids ++ y.kids).length := by simp
  have hle2 := h2.le
  have hmax2 := h2.max
  rw [hlen] at h2
  have hset := TM.setKids HM1.out.drew HX1.out HRX1.out HNB.out (x.kids ++ y.kids) h2 h3 h4
  rw [← hlen] at hset
  have HSET : Kp _ := ⟨hset⟩
  have HFR : Kp _ := ⟨h4⟩
  clear hset h2 h3 h4 hbn hv hlen q0 q1 z0 HXS HYR hnbl Q0 Q1
  go_wp2_with fail
  clear e0 e1 z1
  generalize hW2 : w2.setCell ⟨nb, a * 3 + 1, none⟩ (.slice a2 (x.kids.length + y.kids.length) c2) = W2
  rw [hW2] at HSET
  have HM2 : Kp (TM W2 tb (S.setNode a ⟨x.lines ++ y.lines, x.kids ++ y.kids, x.count⟩) { R with rs := (R.rs.set a ⟨a', c', b', rx.ka, rx.kc, rx.kb⟩).set a ⟨a', c', b', a2, c2, b2⟩ }) := ⟨by
    have := HSET.out.1
    rw [TS.set_set] at this
    exact this⟩
  have HKP2 : Kp (Keep W1 _ W2) := ⟨((Keep.refl W1 _).drew).trans HSET.out.2 (Fresh.refl _ _)⟩
  have HCV2 : Kp _ := ⟨tm_cover2 HCV1.out HRX1.out ⟨a', c', b', a2, c2, b2⟩ (fun g hg => .inl hg) (fun g hg => by
    rcases (show Fresh W1 _ _ from HFR.out) g hg with h | h
    · exact .inl h
    · exact .inr (Nat.le_trans HP1.out.keep.size h))⟩
  have HP2 : Kp (TPost W0 F W2 tb (S.setNode a ⟨x.lines ++ y.lines, x.kids ++ y.kids, x.count⟩)) := ⟨HP1.out.more HM2.out (HKP2.out.mono fun b hb => by
    rcases hb with e | e
    · exact .inl (HRF.out b (.inr (.inl e)))
    · exact .inl (HRF.out b (.inr (.inr (.inr ⟨a, rx, HRX.out, .inr e⟩))))) HCV2.out⟩
  have HRF2 : Kp (∀ b, TR.F { R with rs := (R.rs.set a ⟨a', c', b', rx.ka, rx.kc, rx.kb⟩).set a ⟨a', c', b', a2, c2, b2⟩ } tb b → Ext F W0 W2 b) := ⟨fun b hb => by
    rcases HCV2.out b hb with h | h
    · exact .inl h
    · exact .inr ⟨h, HM2.out.lt hb⟩⟩
  clear hW2 HSET HFR hle2 hmax2 HCV1 HM1 HX1 HRX1 HY1 HRY1 HKP1 HKP2 HP1 hxm hym hxle hyle
  refine (drop_tm HP2.out.mem HM2.out HRF2.out HD.out).mono ?_
  rintro e W3 ⟨rfl, p3, fa, fc, fb, m3, hf3, -⟩
  have hS2 := drop_nodes HD.out
  have hv3 : S2.nodes[k]? = some v := by
    rw [hS2]
    simp only [TS.setNode]
    rw [List.getElem?_set_ne (Ne.symm HKB.out), List.getElem?_set_ne (Ne.symm HKA.out)]
    exact HV.out
  have hr3 : (TR.rs { R with rs := ((R.rs.set a ⟨a', c', b', rx.ka, rx.kc, rx.kb⟩).set a ⟨a', c', b', a2, c2, b2⟩).set b ⟨none, 0, none, none, 0, none⟩, fa := fa, fc := fc, fb := fb })[k]? = some rv := by
    simp only
    rw [List.getElem?_set_ne (Ne.symm HKB.out), List.getElem?_set_ne (Ne.symm HKA.out), List.getElem?_set_ne (Ne.symm HKA.out)]
    exact HRV.out
  have HP3 : Kp _ := ⟨HP2.out.trans p3⟩
  have HM3 : Kp _ := ⟨m3⟩
  have HV3 : Kp _ := ⟨hv3⟩
  have HR3 : Kp _ := ⟨hr3⟩
  have HCV3 : Kp _ := ⟨drop_cover HCV2.out (k := b) fa fc fb (fun g hg => by
    rcases hf3 g hg with h | h
    · exact .inl h
    · exact .inr (Nat.le_trans HP2.out.keep.size h))⟩
  obtain ⟨g0, hkl3, hle3, hmax3, -, g1, -⟩ := TM.cells m3 hv3 hr3 HNB.out
  have hks := m3.kids hr3 hv3
  rw [HVA.out] at g1
  have gz : W3.frozen? ⟨nb, k * 3 + 1, none⟩ = false := m3.nodes.frozen HNB.out _
  have hnbl : nb < W3.heap.size := m3.nodes.lt HNB.out
  have HKS : Kp _ := ⟨hks⟩
  try dsimp only at g0 hle3 hmax3 hkl3
  clear p3 m3 hf3 hv3 hr3 hks HCV2 HM2 HP2 HRF2 hS2
  go_wp2_with fail
  have HKSd : Kp _ := ⟨HKS.out.keep (Keep.refl W3 NoB).drew fun _ _ h => h⟩
  have hbn : ¬ Opt rv.kb nb := fun h => HKS.out.types HM3.out.nodes (by decide) h HNB.out
  have hbt : ¬ Opt rv.kb tb := fun h => HKS.out.ne_blk HM3.out.hd (by decide) h
  have HBN : Kp _ := ⟨hbn⟩
  have HBT : Kp _ := ⟨hbt⟩
  have hn3 : n + 2 < 9223372036854775808 := by omega
  clear hbn hbt
  refine wp_region_plan (fun W => W.cell? ⟨tb, 0, none⟩ = some (.slice (some ⟨nb, 0, none⟩) S2.nodes.length R.nc))
    [(true, 0), (true, 1), (true, 2), (true, 3), (true, 4), (true, 5), (true, 6), (true, 7), (true, 8), (true, 9), (false, 10)] 11 (by kernel_rfl) (by kernel_rfl) (fun _ _ d _ _ h => by cases d <;> exact h) (by go_simp) ?_
  iterate 10
    (refine' plan_read _ rfl rfl ?_ ?_
     rotate_left
     · (intro W hW; (try dsimp only at hW); go_simp; try rfl)
     simp only [Act.put, List.setIfInBounds_toArray, List.set_cons_zero, List.set_cons_succ])
  refine plan_do _ rfl ?_
  have hdel := HKSd.out
  rw [HVA.out] at hdel
  have HDEL : Kp _ := ⟨hdel⟩
  clear hdel
  go_wp2_with fail
  refine (del_int (i := n + 1) (p := (n : Int) + 1) (q := (n : Int) + 2) HDEL.out hnl1 (by omega) (by omega)).mono ?_
  rintro e W4 ⟨rfl, h2, h3⟩
  have e0 := h3.cell (show W3.drew.cell? _ = _ from g0) HBT.out
  have e1 := h3.cell (show W3.drew.cell? _ = _ from g1) HBN.out
  have z1 : W4.frozen? ⟨nb, k * 3 + 1, none⟩ = false := by rw [h3.frozen (show _ < W3.drew.heap.size from hnbl) HBN.out]; exact gz
  have H2 : Kp _ := ⟨h2⟩
  have H3 : Kp _ := ⟨h3⟩
  clear h2 h3 g0 g1 gz
  have hlm : (v.kids.eraseIdx (n + 1)).length = v.kids.length - 1 := by rw [List.length_eraseIdx_of_lt hnl1]
  have hset := TM.setKids HM3.out.drew HV3.out HR3.out HNB.out (a := rv.ka) (c := rv.kc) (v.kids.eraseIdx (n + 1)) (W := W4) (by rw [hlm, HVA.out]; exact H2.out) H3.out (Fresh.refl _ _)
  rw [hlm, HVA.out] at hset
  have HP5 : Kp _ := ⟨HP3.out.more hset.1 ((((Keep.refl W3 (Ext F W0 W3)).drew).trans (hset.2.mono (G := Ext F W0 W3) fun b hb => by
    rcases hb with e | e
    · exact .inl (HRF.out b (.inr (.inl e)))
    · exact .inl (HRF.out b (.inr (.inr (.inr ⟨k, rv, HRV.out, .inr e⟩))))) (Fresh.refl _ _))) (tm_cover2 HCV3.out HR3.out _ (fun g hg => .inl hg) (fun g hg => .inl hg))⟩
  have hv1 : v.kids.length - 1 ≤ rv.kc := by omega
  clear hset hlm
  go_wp2_with fail
  refine ⟨e0, plan_end ?_⟩
  try simp only [List.drop_succ_cons, List.drop_zero]
  go_wp2_with fail
  refine (sum_calls HP5.out.mem HSM.out).mono ?_
  rintro e W6 ⟨rfl, p6⟩
  have P6 : Kp _ := ⟨HP5.out.trans p6⟩
  clear p6 HP5 e0 e1 z1
  go_wp2_with fail
  go_end0
  exact ⟨rfl, TPost.pre HK0.out P6.out (Fresh.refl _ _) HF0.out⟩

end Go.Proofs
