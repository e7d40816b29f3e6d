/- The walks of the tree's at, sum. -/
import Derived.Test.YtajpgjbepebcmaaGreatDoorV1
import Derived.Deep.LoopGhost
import Derived.Shelf.Spec.SlicesInsertGrow
import Derived.Shelf.Slices.Cells
import Derived.Shelf.Strings.SlTrimAscii
import Derived.Ground.NamesProg
import Derived.Shelf.SlGeneric
import Derived.Shelf.Spec.SlicesGrow
import Derived.Ground.Names8Prog
import Derived.Shelf.Small.Wraps
import Derived.Shelf.Strings.Repeat
import Derived.Ground.Names2Prog
import Derived.Test.YtajpgjbepebcmaaGreatDoorProg
/- The walks of the tree's at, sum. -/
namespace Go.Proofs
open Go.RowKit Go.Em

theorem at_step {S : TS} {f k i : Nat} {r : Nat × Nat} (h : S.at_ (f + 1) k i = some r) : ∃ x, S.nodes[k]? = some x ∧
    ((x.kids = [] ∧ r = (k, i)) ∨ (x.kids ≠ [] ∧ ∃ n j kid, S.find k i = some (n, j) ∧ x.kids[n]? = some kid ∧ S.at_ f kid j = some r)) := by
  simp only [TS.at_] at h
  cases hx : S.nodes[k]? with
  | none => simp [hx] at h
  | some x =>
    refine ⟨x, rfl, ?_⟩
    simp only [hx] at h
    by_cases hk : x.kids = []
    · rw [if_pos hk] at h; exact .inl ⟨hk, (Option.some.inj h).symm⟩
    · rw [if_neg hk] at h
      have hff : S.find k i = findGo S.nodes x.kids 0 i := by simp [TS.find, hx]
      rw [← hff] at h
      cases hf : S.find k i with
      | none => simp [hf] at h
      | some p =>
        obtain ⟨n, j⟩ := p
        simp only [hf] at h
        cases hn : x.kids[n]? with
        | none => simp [hn] at h
        | some kid =>
          simp only [hn] at h
          exact .inr ⟨hk, n, j, kid, rfl, hn, h⟩

theorem findGo_le {N : List ND} : ∀ {ks : List Nat} {n i : Nat} {r : Nat × Nat}, findGo N ks n i = some r → r.2 ≤ i
  | [], _, _, r, h => by simp [findGo] at h; subst h; simp
  | kid :: rest, n, i, r, h => by
    obtain ⟨y, _, ⟨_, rfl⟩ | ⟨_, h⟩⟩ := findGo_cons h
    · exact Nat.le_refl _
    · have := findGo_le h; omega
theorem find_le {S : TS} {k i n j : Nat} (h : S.find k i = some (n, j)) : j ≤ i := by
  unfold TS.find at h
  cases hx : S.nodes[k]? with
  | none => simp [hx] at h
  | some x => simp only [hx] at h; exact findGo_le h

set_option maxHeartbeats 1000000 in
theorem at_calls {w : World} {tb : Nat} {S : TS} {F : Blocks} (h : TMem w tb S F) {f i q j : Nat} (hf : S.at_ f S.root i = some (q, j)) (hi : i < 1048576) :
    Calls Tryz.prog 55 #[.pointer (some ⟨tb, 0, none⟩), .int .i64 (i : Int)] w fun e w' => e = .returned (.tuple #[.int .i64 (q : Int), .int .i64 (j : Int)]) ∧ w = w' := by
  have hh := h
  obtain ⟨⟨R, hm, _⟩, _⟩ := hh
  have h0 := hm.cell0
  have h2 := hm.cell2
  have HM : Kp _ := ⟨hm⟩
  have HF : Kp _ := ⟨hf⟩
  have HT : Kp _ := ⟨h⟩
  clear hm hf h
  go_enter Tryz.func55, Tryz.ntmps55
  go_wp2
  go_loopg [6, 1] f (fun g a b wx => w = wx ∧ ∃ k i' : Nat, i' < 1048576 ∧ a = .int .i64 (k : Int) ∧ b = .int .i64 (i' : Int) ∧ Kp (S.at_ g k i' = some (q, j)))
  case atStart => exact ⟨rfl, S.root, i, hi, rfl, rfl, HF⟩
  case round =>
    obtain ⟨hw, k, i', hi', rfl, rfl, HG⟩ := hrel
    subst hw
    cases gk with
    | zero => exact absurd HG.out (by simp [TS.at_])
    | succ g =>
    obtain ⟨x, hx, hs⟩ := at_step HG.out
    obtain ⟨nb, r, _, hna, hr, hk, hle, hmax, c0, c1, c2⟩ := HM.out.node hx
    rw [hna] at h0
    have hks := HM.out.kids hr hx
    rcases hs with ⟨hnil, hres⟩ | ⟨hne, n, j', kid, hfind, hkid, hrec⟩
    · have HR : Kp _ := ⟨Prod.mk.inj hres⟩
      have hl0 : (decide (x.kids.length = 0)) = true := by simp [hnil]
      clear hres hx hks hnil hna hr HG
      generalize x.kids.length = m at *
      go_wp2_with ((with_reducible refine (leaf_calls _ _ _ _ _ _ c1).mono ?_); rintro e w' ⟨rfl, rfl⟩)
      go_ret2
      (obtain ⟨e1, e2⟩ := HR.out; subst e1; subst e2; exact ⟨rfl, rfl⟩)
    · have hl0 : (decide (x.kids.length = 0)) = false := by simp [hne]
      have hnl := (List.getElem?_eq_some_iff.1 hkid).1
      obtain ⟨kb, hb, ha⟩ := hks.nonnil (by omega)
      have hcell := hks.cell hb (vint_get hkid)
      have hkl := hks.le
      have hkm := hks.max
      have hjl := find_le hfind
      rw [ha] at c1
      have HFi : Kp _ := ⟨hfind⟩
      have HRe : Kp _ := ⟨hrec⟩
      clear hfind hrec hx hks hne hna hr HG hkid ha hb c0 c2
      generalize x.kids.length = m at *
      generalize r.kc = kc at *
      go_wp2_with (first | ((with_reducible refine (leaf_calls _ _ _ _ _ _ c1).mono ?_); rintro e w' ⟨rfl, rfl⟩) | ((with_reducible refine (find_calls HT.out HFi.out hi').mono ?_); rintro e w' ⟨rfl, rfl⟩))
      go_roundg g
      case rel => exact ⟨rfl, kid, j', by omega, rfl, rfl, HRe⟩
      case measure => omega

end Go.Proofs

/- The walk of the tree's sum. -/
namespace Go.Proofs
open Go.RowKit Go.Em

theorem addCounts_cons {N : List ND} {kid : Nat} {rest : List Nat} {c r : Nat} (h : addCounts N (kid :: rest) c = some r) :
    ∃ y, N[kid]? = some y ∧ c + y.count < cap ∧ addCounts N rest (c + y.count) = some r := by
  unfold addCounts at h
  cases hy : N[kid]? with
  | none => simp [hy] at h
  | some y =>
    simp only [hy] at h
    split at h
    · rename_i hc; exact ⟨y, rfl, hc, h⟩
    · cases h

theorem sum_inv {S S' : TS} {k : Nat} (h : S.sum k = some S') : ∃ x c, S.nodes[k]? = some x ∧ k ∉ x.kids ∧ x.lines.length < cap ∧ addCounts S.nodes x.kids x.lines.length = some c ∧ S' = S.setNode k ⟨x.lines, x.kids, c⟩ := by
  unfold TS.sum at h
  cases hx : S.nodes[k]? with
  | none => simp [hx] at h
  | some x =>
    simp only [hx] at h
    split at h
    · cases h
    · rename_i hk
      split at h
      · rename_i hl
        cases hc : addCounts S.nodes x.kids x.lines.length with
        | none => simp [hc] at h
        | some c => simp only [hc] at h; exact ⟨x, c, rfl, hk, hl, hc, (Option.some.inj h).symm⟩
      · cases h

set_option maxRecDepth 100000 in
set_option maxHeartbeats 1000000 in
theorem sum_calls {w : World} {tb : Nat} {S S' : TS} {F : Blocks} (h : TMem w tb S F) {k : Nat} (hs : S.sum k = some S') :
    Calls Tryz.prog 76 #[.pointer (some ⟨tb, 0, none⟩), .int .i64 (k : Int)] w fun e w' => e = .returned (.tuple #[]) ∧ TPost w F w' tb S' := by
  have HT : Kp _ := ⟨h⟩
  obtain ⟨⟨R, hm, hRF⟩, _⟩ := h
  obtain ⟨x, cf, hx, hnk, hll, hadd, rfl⟩ := sum_inv hs
  obtain ⟨nb, r, hnb, hna, hr, hk, hle, hmax, c0, c1, c2⟩ := hm.node hx
  have h0 := hm.cell0
  rw [hna] at h0
  have hks := hm.kids hr hx
  have hkl := hks.le
  have hkm := hks.max
  have hfz := hm.nodes.frozen hnb (k * 3 + 2)
  have hll' : x.lines.length < 1048576 := hll
  obtain ⟨hm1, hk1⟩ := hm.setCount hx hnb x.lines.length
  have HM1 : Kp _ := ⟨hm1⟩
  have HK1 : Kp _ := ⟨hk1⟩
  have HA : Kp _ := ⟨hadd⟩
  have HX : Kp _ := ⟨hx⟩
  have HNK : Kp _ := ⟨hnk⟩
  have HNB : Kp _ := ⟨hnb⟩
  have HNA : Kp _ := ⟨hna⟩
  have HRF : Kp _ := ⟨hRF⟩
  have HKS : Kp _ := ⟨hks⟩
  have HR : Kp _ := ⟨hr⟩
  obtain ⟨ka, hka⟩ : ∃ ka, ka = r.ka := ⟨_, rfl⟩
  rw [← hka] at c1
  have HKA : Kp _ := ⟨hka⟩
  clear hs hm hx hnk hll hadd hm1 hk1 hnb hna hRF hks hr hka
  go_enter Tryz.func76, Tryz.ntmps76
  go_wp2
  go_loopw [26] (fun a wr => ∃ q c : Nat, q ≤ x.kids.length ∧ c < 1048576 ∧ a = .int .i64 (q : Int) ∧ Kp (addCounts S.nodes (x.kids.drop q) c = some cf) ∧ Kp (TM wr tb (S.setNode k ⟨x.lines, x.kids, c⟩) R) ∧ Kp (Keep w (Opt R.nb) wr)) (fun a _ => x.kids.length - (intOf a).toNat)
  case atStart => exact ⟨0, x.lines.length, Nat.zero_le _, hll', rfl, ⟨by simpa using HA.out⟩, HM1, HK1⟩
  case round =>
    obtain ⟨q, c, hq, hc, rfl, HG, HMr, HKr⟩ := hrel
    by_cases hlt : q < x.kids.length
    · obtain ⟨y, hy, hd⟩ := drop_next hlt
      have hG := HG.out
      rw [hd] at hG
      obtain ⟨z, hz, hcz, hG⟩ := addCounts_cons hG
      have hyk : y ≠ k := fun e => HNK.out (e ▸ List.mem_of_getElem? hy)
      have hxk := TS.set_get ⟨x.lines, x.kids, c⟩ HX.out
      have hzy : (S.setNode k ⟨x.lines, x.kids, c⟩).nodes[y]? = some z := by rw [TS.set_far _ hyk]; exact hz
      obtain ⟨nb1, r1, e1, _, hr1, _, _, _, _, _, d2⟩ := HMr.out.node hxk
      obtain ⟨nb2, r2, e2, _, _, hyl, _, _, _, _, d2'⟩ := HMr.out.node hzy
      rw [HNB.out] at e1 e2; cases e1; cases e2
      have g0 := HMr.out.cell0
      rw [HNA.out] at g0
      have gfz := HMr.out.nodes.frozen HNB.out (k * 3 + 2)
      have hln : (S.setNode k ⟨x.lines, x.kids, c⟩).nodes.length = S.nodes.length := by simp [TS.setNode]
      rw [hln] at g0 hyl
      obtain ⟨kb, hb, ha⟩ := HKS.out.nonnil (by omega)
      obtain ⟨hm2, hk2⟩ := HMr.out.setCount hxk HNB.out (c + z.count)
      rw [TS.set_set] at hm2
      rw [HR.out] at hr1; cases hr1
      have hcell : wr.cell? ⟨kb, q, none⟩ = some (.int .i64 (y : Int)) := (HMr.out.kids HR.out hxk).cell hb (vint_get hy)
      have hkae : ka = some ⟨kb, 0, none⟩ := HKA.out.trans ha
      subst hkae
      have HM2 : Kp _ := ⟨hm2⟩
      have HK2 : Kp _ := ⟨HKr.out.trans hk2 (Fresh.refl _ _)⟩
      have HG2 : Kp _ := ⟨hG⟩
      have hcz' : c + z.count < 1048576 := hcz
      clear HG hG hd hz hy hzy hxk hm2 hk2 hln hcz ha hb HMr HKr HA
      generalize z.count = cz at *
      go_wp2
      go_still_tail 15, (by kernel_rfl)
      go_wp2
      go_roundw
      case rel => exact ⟨q + 1, c + cz, by omega, by omega, by go_num, HG2, ⟨HM2.out.drew⟩, ⟨HK2.out.drew⟩⟩
      case measure => simp [intOf]; omega
    · have hqe : q = x.kids.length := by omega
      have hG := HG.out
      rw [List.drop_eq_nil_of_le (by omega)] at hG
      simp [addCounts] at hG
      subst hG
      clear HG
      go_wp2
      go_end0
      exact ⟨rfl, TPost.of HT.out HMr.out (HKr.out.mono fun b hb => HRF.out b (.inr (.inl hb))) fun b hb => .inl (HRF.out b hb)⟩

end Go.Proofs

/- The walks of the tree's make, drop. -/
namespace Go.Proofs
open Go.RowKit Go.Em

theorem info_node : (Tryz.prog.info? 83).map (fun i => (i.zero, i.size, i.bytes)) = some (some (.agg #[.slice none 0 0, .slice none 0 0, .int .i64 0]), 3, 56) := by kernel_rfl

theorem getLast_get {l : List Nat} {k : Nat} (h : l.getLast? = some k) : l[l.length - 1]? = some k ∧ 0 < l.length := by
  have h0 : l ≠ [] := fun e => by rw [e] at h; simp at h
  refine ⟨by rw [← List.getLast?_eq_getElem?]; exact h, List.length_pos_iff.2 h0⟩

/-- A node written whole. -/
theorem _root_.Go.Em.TM.putNode {w : World} {tb : Nat} {S : TS} {R : TR} (h : TM w tb S R) {k nb : Nat} {x : ND} (hx : S.nodes[k]? = some x) (hnb : R.nb = some nb) (r' : RN) (x' : ND)
    (hl : Sl w 9 1 r'.la x'.lines.length r'.lc (vstr x'.lines) r'.lb) (hk : Sl w 3 1 r'.ka x'.kids.length r'.kc (vint x'.kids) r'.kb)
    (hlf : ∀ g, r'.lb = some g → (∃ r, R.rs[k]? = some r ∧ r.lb = some g) ∨ ¬ R.F tb g) (hkf : ∀ g, r'.kb = some g → (∃ r, R.rs[k]? = some r ∧ r.kb = some g) ∨ ¬ R.F tb g) :
    TM (((w.setCell ⟨nb, k * 3, none⟩ (.slice r'.la x'.lines.length r'.lc)).setCell ⟨nb, k * 3 + 1, none⟩ (.slice r'.ka x'.kids.length r'.kc)).setCell ⟨nb, k * 3 + 2, none⟩ (.int .i64 (x'.count : Int))) tb (S.setNode k x') { R with rs := R.rs.set k r' } ∧
      Keep w (Opt R.nb) (((w.setCell ⟨nb, k * 3, none⟩ (.slice r'.la x'.lines.length r'.lc)).setCell ⟨nb, k * 3 + 1, none⟩ (.slice r'.ka x'.kids.length r'.kc)).setCell ⟨nb, k * 3 + 2, none⟩ (.int .i64 (x'.count : Int))) := by
  obtain ⟨nb', r, e1, _, hr, _⟩ := h.node hx
  have hkp : Keep w (Opt R.nb) (((w.setCell ⟨nb, k * 3, none⟩ (.slice r'.la x'.lines.length r'.lc)).setCell ⟨nb, k * 3 + 1, none⟩ (.slice r'.ka x'.kids.length r'.kc)).setCell ⟨nb, k * 3 + 2, none⟩ (.int .i64 (x'.count : Int))) :=
    (((Keep.refl w (Opt R.nb)).setCell (a := ⟨nb, k * 3, none⟩) (.inl hnb) _).setCell (a := ⟨nb, k * 3 + 1, none⟩) (.inl hnb) _).setCell (a := ⟨nb, k * 3 + 2, none⟩) (.inl hnb) _
  refine ⟨h.replace hr hx r' x' ?_ (hl.keep hkp fun g hg e => hl.types h.nodes (by decide) hg e) (hk.keep hkp fun g hg e => hk.types h.nodes (by decide) hg e) (fun g hg => ?_) (fun g hg => ?_) (hkp.mono fun b hb => .inl hb), hkp⟩
  · rw [flat_put _ _ hr hx]
    exact ((h.nodes.put hnb _ _).put hnb _ _).put hnb _ _
  · rcases hlf g hg with ⟨r0, h0, h1⟩ | h1
    · rw [hr] at h0; cases h0; exact .inl h1
    · exact .inr h1
  · rcases hkf g hg with ⟨r0, h0, h1⟩ | h1
    · rw [hr] at h0; cases h0; exact .inl h1
    · exact .inr h1

set_option maxRecDepth 100000 in
set_option maxHeartbeats 1000000 in
theorem make_free {w : World} {tb : Nat} {S : TS} {F : Blocks} (h : TMem w tb S F) {k : Nat} {x : ND} {r : RN} (hg : S.free.getLast? = some k) (hkl : k < S.nodes.length)
    (hl : Sl w 9 1 r.la x.lines.length r.lc (vstr x.lines) r.lb) (hk : Sl w 3 1 r.ka x.kids.length r.kc (vint x.kids) r.kb) (hlf : ∀ g, r.lb = some g → ¬ F g) (hkf : ∀ g, r.kb = some g → ¬ F g) :
    Calls Tryz.prog 75 #[.pointer (some ⟨tb, 0, none⟩), .agg #[.slice r.la x.lines.length r.lc, .slice r.ka x.kids.length r.kc, .int .i64 (x.count : Int)]] w fun e w' =>
      e = .returned (.int .i64 (k : Int)) ∧ TPost w (fun b => F b ∨ r.lb = some b ∨ r.kb = some b) w' tb { S with free := S.free.dropLast, nodes := S.nodes.set k x } := by
  have hG : TMem w tb S (fun b => F b ∨ r.lb = some b ∨ r.kb = some b) := h.mono (fun b hb => .inl hb) fun b hb => by
    rcases hb with hb | hb | hb
    · exact h.lt b hb
    · exact hl.lt hb
    · exact hk.lt hb
  obtain ⟨⟨R, hm, hRF⟩, hFlt⟩ := h
  have hx : S.nodes[k]? = some S.nodes[k] := List.getElem?_eq_getElem hkl
  obtain ⟨nb, r0, hnb, hna, hr, _, hle, hmax, _⟩ := hm.node hx
  obtain ⟨hgk, hpos⟩ := getLast_get hg
  have h0 := hm.cell0
  have h1 := hm.cell1
  rw [hna] at h0
  have hfz := hm.frozen 1
  obtain ⟨fb, hfb, hfa⟩ := hm.free.nonnil hpos
  rw [hfa] at h1
  have hcell := hm.free.cell hfb (vint_get hgk)
  have hfle := hm.free.le
  have hfmax := hm.free.max
  have hnfz := hm.nodes.frozen hnb
  have hnc0 : (w.cell? ⟨nb, k * 3, none⟩).isSome = true := by obtain ⟨nb', _, e1, _, _, _, _, _, c0, _⟩ := hm.node hx; rw [hnb] at e1; cases e1; rw [c0]; rfl
  have hnc1 : (w.cell? ⟨nb, k * 3 + 1, none⟩).isSome = true := by obtain ⟨nb', _, e1, _, _, _, _, _, _, c0, _⟩ := hm.node hx; rw [hnb] at e1; cases e1; rw [c0]; rfl
  have hnc2 : (w.cell? ⟨nb, k * 3 + 2, none⟩).isSome = true := by obtain ⟨nb', _, e1, _, _, _, _, _, _, _, c0⟩ := hm.node hx; rw [hnb] at e1; cases e1; rw [c0]; rfl
  obtain ⟨v0, d0⟩ := Option.isSome_iff_exists.1 hnc0
  obtain ⟨v1, d1⟩ := Option.isSome_iff_exists.1 hnc1
  obtain ⟨v2, d2⟩ := Option.isSome_iff_exists.1 hnc2
  have f0 := hnfz (k * 3)
  have f1 := hnfz (k * 3 + 1)
  have f2 := hnfz (k * 3 + 2)
  have htn : nb ≠ tb := fun e => hm.nodes.ne_blk hm.hd (by decide) (e ▸ hnb)
  have htb : tb < w.heap.size := hm.lt (.inl rfl)
  have hnbl : nb < w.heap.size := hm.nodes.lt hnb
  have hfbl : fb < w.heap.size := hm.free.lt hfb
  have hft : fb ≠ tb := fun e => hm.free.ne_blk hm.hd (by decide) (e ▸ hfb)
  have hfnb : fb ≠ nb := fun e => hm.free.types hm.nodes (by decide) (e ▸ hfb) hnb
  generalize hfn : S.free.length = n at *
  have hn1 : ((n - 1 : Nat) : Int) = (n : Int) - 1 := by omega
  obtain ⟨m, rfl⟩ : ∃ m, n = m + 1 := ⟨n - 1, by omega⟩
  rw [Nat.add_sub_cancel] at hcell
  have FIN : Kp (TPost w (fun b => F b ∨ r.lb = some b ∨ r.kb = some b)
    (((((w.setCell ⟨tb, 1, none⟩ (.slice (some ⟨fb, 0, none⟩) m R.fc)).setCell ⟨nb, k * 3, none⟩ (.slice r.la x.lines.length r.lc)).setCell ⟨nb, k * 3 + 1, none⟩ (.slice r.ka x.kids.length r.kc)).setCell ⟨nb, k * 3 + 2, none⟩ (.int .i64 (x.count : Int))).alloc
      (.cells #[.slice r.la x.lines.length r.lc, .slice r.ka x.kids.length r.kc, .int .i64 (x.count : Int)] 83)).drew tb { S with free := S.free.dropLast, nodes := S.nodes.set k x }) := by
    have hdl : S.free.dropLast.length = m := by simp; omega
    have hsl := hm.free.take (S.free.dropLast.length) (by omega)
    have he : (vint S.free).take (S.free.dropLast.length * 1) = vint S.free.dropLast := by rw [hdl, Nat.mul_one]; unfold vint; rw [← List.map_take, List.dropLast_eq_take, hfn]; rfl
    rw [he, hfa] at hsl
    obtain ⟨m1, k1⟩ := hm.setFree (w1 := w) (some ⟨fb, 0, none⟩) R.fc R.fb S.free.dropLast (Keep.refl _ _) hsl (fun g hg => .inl hg)
    rw [hdl] at m1 k1
    have kl : ∀ {e sz : Nat} {a : Option Addr} {n c : Nat} {xs : List Value} {b : Option Nat}, Sl w e sz a n c xs b → (∀ g, b = some g → ¬ F g) → Sl (w.setCell ⟨tb, 1, none⟩ (.slice (some ⟨fb, 0, none⟩) m R.fc)) e sz a n c xs b := fun hh hn =>
      hh.keep k1 fun g hg e => hn g hg (by
        rcases e with e | e
        · exact hRF g (.inr (.inr (.inl e)))
        · exact hRF g (.inl e))
    have hRF1 : ∀ g, TR.F { R with fa := some ⟨fb, 0, none⟩, fc := R.fc, fb := R.fb } tb g → F g := fun g hg => hRF g hg
    obtain ⟨m2, k2⟩ := m1.putNode (k := k) (nb := nb) hx hnb r x (kl hl hlf) (kl hk hkf) (fun g hg => .inr fun hh => hlf g hg (hRF1 g hh)) (fun g hg => .inr fun hh => hkf g hg (hRF1 g hh))
    refine ⟨TPost.of hG ((m2.keep (Keep.refl _ NoB |>.alloc _) fun _ _ h => h).drew) ?_ fun b hb => ?_⟩
    · refine (((k1.mono fun b hb => ?_).trans (k2.mono (G := fun b => F b ∨ r.lb = some b ∨ r.kb = some b) fun b hb => ?_) (Fresh.refl _ _)).alloc _).drew
      · rcases hb with e | e
        · exact .inl (hRF b (.inr (.inr (.inl e))))
        · exact .inl (hRF b (.inl e))
      · exact .inl (hRF b (.inr (.inl hb)))
    · left
      rcases hb with e | e | e | ⟨j, q, hj, e⟩
      · exact .inl (hRF b (.inl e))
      · exact .inl (hRF b (.inr (.inl e)))
      · exact .inl (hRF b (.inr (.inr (.inl e))))
      · by_cases hjk : j = k
        · subst hjk
          simp only at hj
          rw [List.getElem?_set_self (by rw [hm.len]; exact hkl)] at hj
          cases hj
          exact e.elim (fun e => .inr (.inl e)) (fun e => .inr (.inr e))
        · simp only at hj
          rw [List.getElem?_set_ne (Ne.symm hjk)] at hj
          exact .inl (hRF b (.inr (.inr (.inr ⟨j, q, hj, e⟩))))
  go_enter Tryz.func75, Tryz.ntmps75
  clear hm hl hk hx hr hRF hFlt hG hnfz hgk hg hnc0 hnc1 hnc2 hn1 hlf hkf hna hnb hfb hfa
  go_wp2
  refine wp_region_plan (fun W => W.cell? ⟨tb, 0, none⟩ = some (.slice (some ⟨nb, 0, none⟩) S.nodes.length R.nc) ∧ W.cell? ⟨w.heap.size, 0, none⟩ = some (.slice r.la x.lines.length r.lc) ∧ W.cell? ⟨w.heap.size, 1, none⟩ = some (.slice r.ka x.kids.length r.kc) ∧
    W.cell? ⟨w.heap.size, 2, none⟩ = some (.int .i64 (x.count : Int))) [(true, 0), (true, 1), (true, 2), (true, 3), (true, 4), (true, 5)] 6 (by kernel_rfl) (by kernel_rfl) (fun _ _ d _ _ h => by cases d <;> exact h) (by go_simp) ?_
  iterate 6
    (refine' plan_read _ rfl rfl ?_ ?_
     rotate_left
     · (intro W hW; (try dsimp only at hW); go_simp; try rfl)
     simp only [Act.put, List.setIfInBounds_toArray, List.set_cons_zero, List.set_cons_succ])
  refine plan_end ?_
  simp only [List.drop_succ_cons, List.drop_zero]
  go_wp2
  go_ret
  exact ⟨rfl, FIN.out⟩

theorem nodes_ne (nb tb : Nat) (h : nb ≠ tb) : tb ≠ nb := fun e => h e.symm

set_option maxRecDepth 100000 in
set_option maxHeartbeats 1000000 in
theorem make_grow {w : World} {tb : Nat} {S : TS} {F : Blocks} (h : TMem w tb S F) {x : ND} {r : RN} (hg : S.free = []) (hkl : S.nodes.length < 1048576)
    (hl : Sl w 9 1 r.la x.lines.length r.lc (vstr x.lines) r.lb) (hk : Sl w 3 1 r.ka x.kids.length r.kc (vint x.kids) r.kb) (hlf : ∀ g, r.lb = some g → ¬ F g) (hkf : ∀ g, r.kb = some g → ¬ F g) :
    Calls Tryz.prog 75 #[.pointer (some ⟨tb, 0, none⟩), .agg #[.slice r.la x.lines.length r.lc, .slice r.ka x.kids.length r.kc, .int .i64 (x.count : Int)]] w fun e w' =>
      e = .returned (.int .i64 (S.nodes.length : Int)) ∧ TPost w (fun b => F b ∨ r.lb = some b ∨ r.kb = some b) w' tb { S with nodes := S.nodes ++ [x] } := by
  have hG : TMem w tb S (fun b => F b ∨ r.lb = some b ∨ r.kb = some b) := h.mono (fun b hb => .inl hb) fun b hb => by
    rcases hb with hb | hb | hb
    · exact h.lt b hb
    · exact hl.lt hb
    · exact hk.lt hb
  obtain ⟨⟨R, hm, hRF⟩, hFlt⟩ := h
  have h0 := hm.cell0
  have h1 := hm.cell1
  rw [hg] at h1
  have hfz0 := hm.frozen 0
  have htb : tb < w.heap.size := hm.lt (.inl rfl)
  have hfle : 0 ≤ R.fc := Nat.zero_le _
  have hfmax := hm.free.max
  have hnle := hm.nodes.le
  have hnmax := hm.nodes.max
  have hrd : ∀ W : World, W.heap[w.heap.size + 1]? = some (.cells #[.slice r.la x.lines.length r.lc, .slice r.ka x.kids.length r.kc, .int .i64 (x.count : Int)] 83 (0, 0)) → Rd W 3 (some ⟨w.heap.size + 1, 0, none⟩) 1 (r.cells x) := by
    intro W hW
    refine ⟨by simp [RN.cells], fun j u hj => ⟨⟨w.heap.size + 1, 0, none⟩, rfl, ?_⟩, fun u hu => ?_⟩
    · rw [Addr.add_lit, Nat.zero_add, cell_blk hW]
      simpa [RN.cells] using hj
    · simp [RN.cells] at hu
      rcases hu with rfl | rfl | rfl <;> rfl
  have HRD : Kp _ := ⟨hrd⟩
  have HM : Kp _ := ⟨hm⟩
  have HG : Kp _ := ⟨hG⟩
  have HRF : Kp _ := ⟨hRF⟩
  have HL : Kp _ := ⟨hl⟩
  have HKK : Kp _ := ⟨hk⟩
  have HLF : Kp _ := ⟨hlf⟩
  have HKF : Kp _ := ⟨hkf⟩
  clear hrd hm hG hRF hl hk hlf hkf hFlt hg
  go_enter Tryz.func75, Tryz.ntmps75
  go_wp2
  refine wp_region_plan (fun W => W.cell? ⟨tb, 0, none⟩ = some (.slice R.na S.nodes.length R.nc) ∧ W.cell? ⟨w.heap.size, 0, none⟩ = some (.slice r.la x.lines.length r.lc) ∧ W.cell? ⟨w.heap.size, 1, none⟩ = some (.slice r.ka x.kids.length r.kc) ∧
    W.cell? ⟨w.heap.size, 2, none⟩ = some (.int .i64 (x.count : Int))) [(true, 0), (true, 1), (true, 2), (true, 3), (true, 4), (true, 5), (false, 6), (false, 7)] 8 (by kernel_rfl) (by kernel_rfl) (fun _ _ d _ _ h => by cases d <;> exact h) (by go_simp) ?_
  iterate 6
    (refine' plan_read _ rfl rfl ?_ ?_
     rotate_left
     · (intro W hW; (try dsimp only at hW); go_simp; try rfl)
     simp only [Act.put, List.setIfInBounds_toArray, List.set_cons_zero, List.set_cons_succ])
  refine plan_do _ rfl ?_
  go_wp2
  refine ⟨by go_simp, ?_⟩
  have hkW : Keep w NoB ((w.alloc (.cells #[.slice r.la x.lines.length r.lc, .slice r.ka x.kids.length r.kc, .int .i64 (x.count : Int)] 83)).alloc (.cells #[.slice r.la x.lines.length r.lc, .slice r.ka x.kids.length r.kc, .int .i64 (x.count : Int)] 83)).drew :=
    (((Keep.refl w NoB).alloc _).alloc _).drew
  have hbW : ((w.alloc (.cells #[.slice r.la x.lines.length r.lc, .slice r.ka x.kids.length r.kc, .int .i64 (x.count : Int)] 83)).alloc (.cells #[.slice r.la x.lines.length r.lc, .slice r.ka x.kids.length r.kc, .int .i64 (x.count : Int)] 83)).drew.heap[w.heap.size + 1]? =
      some (.cells #[.slice r.la x.lines.length r.lc, .slice r.ka x.kids.length r.kc, .int .i64 (x.count : Int)] 83 (0, 0)) := (heap_two w _ _).1
  have hbB : ((w.alloc (.cells #[.slice r.la x.lines.length r.lc, .slice r.ka x.kids.length r.kc, .int .i64 (x.count : Int)] 83)).alloc (.cells #[.slice r.la x.lines.length r.lc, .slice r.ka x.kids.length r.kc, .int .i64 (x.count : Int)] 83)).drew.heap[w.heap.size]? =
      some (.cells #[.slice r.la x.lines.length r.lc, .slice r.ka x.kids.length r.kc, .int .i64 (x.count : Int)] 83 (0, 0)) := (heap_two w _ _).2
  generalize ((w.alloc (.cells #[.slice r.la x.lines.length r.lc, .slice r.ka x.kids.length r.kc, .int .i64 (x.count : Int)] 83)).alloc (.cells #[.slice r.la x.lines.length r.lc, .slice r.ka x.kids.length r.kc, .int .i64 (x.count : Int)] 83)).drew = W at *
  have HKW : Kp _ := ⟨hkW⟩
  have HMW : Kp _ := ⟨HM.out.keep hkW fun _ _ h => h⟩
  have HRW : Kp _ := ⟨HRD.out W hbW⟩
  have HBB : Kp _ := ⟨hbB⟩
  clear hkW hbW hbB
  refine plan_do _ rfl ?_
  go_wp2_with (at_builtin; go_must (refine wpList_append_rd rfl _ _ 78 rfl 83 _ 3 56 Tryz.underlying78 info_node rfl (by decide) HMW.out.nodes rfl HRW.out rfl (by omega) (by omega) ?_); intro a' c' b' w' h2 h3 h4)
  have hsz := HKW.out.size
  have hnb0 : ∀ g, g < w.heap.size + 1 → w.heap.size ≤ g → ¬ Opt R.nb g := fun g _ h1 h => by have := HM.out.nodes.lt h; omega
  have hbt : ¬ Opt R.nb tb := fun h => HM.out.nodes.ne_blk HM.out.hd (by decide) h
  have e0 := h3.cell HMW.out.cell0 hbt
  have e1 := h3.blk HBB.out (hnb0 _ (by omega) (Nat.le_refl _))
  have e2 : w'.frozen? ⟨tb, 0, none⟩ = false := by rw [h3.frozen (by have := HMW.out.lt (.inl rfl); exact this) hbt]; exact HMW.out.frozen 0
  refine ⟨⟨e0, by rw [cell_blk e1]; rfl, by rw [cell_blk e1]; rfl, by rw [cell_blk e1]; rfl⟩, plan_end ?_⟩
  simp only [List.drop_succ_cons, List.drop_zero]
  have hle' := h2.le
  have hmax' := h2.max
  have FIN : Kp (TPost w (fun b => F b ∨ r.lb = some b ∨ r.kb = some b) (w'.setCell ⟨tb, 0, none⟩ (.slice a' (S.nodes.length + 1) c')) tb { S with nodes := S.nodes ++ [x] }) := by
    have hlW := HL.out.keep HKW.out fun _ _ h => h
    have hkW := HKK.out.keep HKW.out fun _ _ h => h
    obtain ⟨m1, k1⟩ := HMW.out.push a' c' b' r x h3 h2 hlW hkW (fun g hg hh => HLF.out g hg (HRF.out g hh)) (fun g hg hh => HKF.out g hg (HRF.out g hh))
    refine ⟨TPost.of HG.out m1 ((HKW.out.mono (G := fun b => F b ∨ r.lb = some b ∨ r.kb = some b) fun _ h => h.elim).trans (k1.mono (G := fun b => F b ∨ r.lb = some b ∨ r.kb = some b) fun b hb => ?_) (Fresh.refl _ _)) fun b hb => ?_⟩
    · rcases hb with e | e
      · exact .inl (HRF.out b (.inr (.inl e)))
      · exact .inl (HRF.out b (.inl e))
    · rcases hb with e | e | e | ⟨j, q, hj, e⟩
      · exact .inl (.inl (HRF.out b (.inl e)))
      · rcases h4 b e with e | e
        · exact .inl (.inl (HRF.out b (.inr (.inl e))))
        · exact .inr (by omega)
      · exact .inl (.inl (HRF.out b (.inr (.inr (.inl e)))))
      · left
        simp only at hj
        rcases Nat.lt_or_ge j R.rs.length with h1 | h1
        · rw [List.getElem?_append_left h1] at hj
          exact .inl (HRF.out b (.inr (.inr (.inr ⟨j, q, hj, e⟩))))
        · rw [List.getElem?_append_right h1] at hj
          have := (List.getElem?_eq_some_iff.1 hj).1
          have hjj : j - R.rs.length = 0 := by simp at this; omega
          rw [hjj] at hj
          simp at hj
          subst hj
          exact e.elim (fun e => .inr (.inl e)) (fun e => .inr (.inr e))
  clear h2 h3 h4 hnb0 e1 HRW HBB HRD HM HG HRF HL HKK HLF HKF
  go_wp2
  go_ret
  exact ⟨rfl, FIN.out⟩

end Go.Proofs

/- The walks of the tree's make (joined), drop. -/
namespace Go.Proofs
open Go.RowKit Go.Em

theorem make_calls {w : World} {tb : Nat} {S S' : TS} {F : Blocks} (h : TMem w tb S F) {k : Nat} {x : ND} {r : RN} (hm : S.make x = some (k, S'))
    (hl : Sl w 9 1 r.la x.lines.length r.lc (vstr x.lines) r.lb) (hk : Sl w 3 1 r.ka x.kids.length r.kc (vint x.kids) r.kb) (hlf : ∀ g, r.lb = some g → ¬ F g) (hkf : ∀ g, r.kb = some g → ¬ F g) :
    Calls Tryz.prog 75 #[.pointer (some ⟨tb, 0, none⟩), .agg #[.slice r.la x.lines.length r.lc, .slice r.ka x.kids.length r.kc, .int .i64 (x.count : Int)]] w fun e w' =>
      e = .returned (.int .i64 (k : Int)) ∧ TPost w (fun b => F b ∨ r.lb = some b ∨ r.kb = some b) w' tb S' := by
  unfold TS.make at hm
  cases hg : S.free.getLast? with
  | some q =>
    simp only [hg] at hm
    split at hm
    · rename_i hlt
      obtain ⟨rfl, rfl⟩ := Prod.mk.inj (Option.some.inj hm)
      exact make_free h hg hlt hl hk hlf hkf
    · cases hm
  | none =>
    simp only [hg] at hm
    split at hm
    · rename_i hlt
      obtain ⟨rfl, rfl⟩ := Prod.mk.inj (Option.some.inj hm)
      exact make_grow h (by simpa using hg) hlt hl hk hlf hkf
    · cases hm

set_option maxRecDepth 100000 in
set_option maxHeartbeats 1000000 in
theorem drop_tm {w : World} {tb : Nat} {S S' : TS} {F : Blocks} {R : TR} (h : TMem w tb S F) (hm : TM w tb S R) (hRF : ∀ b, R.F tb b → F b) {k : Nat} (hd : S.drop k = some S') :
    Calls Tryz.prog 164 #[.pointer (some ⟨tb, 0, none⟩), .int .i64 (k : Int)] w fun e w' => e = .returned (.tuple #[]) ∧ TPost w F w' tb S' ∧
      ∃ fa fc fb, TM w' tb S' { R with rs := R.rs.set k ⟨none, 0, none, none, 0, none⟩, fa := fa, fc := fc, fb := fb } ∧ (∀ g, fb = some g → R.fb = some g ∨ w.heap.size ≤ g) ∧ Keep w (fun b => b = tb ∨ R.nb = some b ∨ R.fb = some b) w' := by
  unfold TS.drop at hd
  split at hd
  case isFalse => cases hd
  rename_i hkl
  split at hd
  case isFalse => cases hd
  rename_i hfl
  have hfl : S.free.length < 1048576 := hfl
  obtain rfl := Option.some.inj hd
  have HG : Kp _ := ⟨h⟩
  clear h
  have hx : S.nodes[k]? = some S.nodes[k] := List.getElem?_eq_getElem hkl
  obtain ⟨nb, r0, hnb, hna, hr, _, hle, hmax, d0, d1, d2⟩ := hm.node hx
  have h0 := hm.cell0
  rw [hna] at h0
  have hnfz := hm.nodes.frozen hnb
  have f0 := hnfz (k * 3)
  have f1 := hnfz (k * 3 + 1)
  have f2 := hnfz (k * 3 + 2)
  obtain ⟨m1, k1⟩ := hm.putNode hx hnb ⟨none, 0, none, none, 0, none⟩ ⟨[], [], 0⟩ (Sl.nil _ _ _) (Sl.nil _ _ _) (fun g hg => by cases hg) (fun g hg => by cases hg)
  have htn : nb ≠ tb := fun e => hm.nodes.ne_blk hm.hd (by decide) (e ▸ hnb)
  have h1 := hm.cell1
  have hz1 := hm.frozen 1
  have htb : tb < w.heap.size := hm.lt (.inl rfl)
  have hnbl : nb < w.heap.size := hm.nodes.lt hnb
  have kA : Keep (((w.setCell ⟨nb, k * 3, none⟩ (.slice none 0 0)).setCell ⟨nb, k * 3 + 1, none⟩ (.slice none 0 0)).setCell ⟨nb, k * 3 + 2, none⟩ (.int .i64 0)) NoB
      ((((w.setCell ⟨nb, k * 3, none⟩ (.slice none 0 0)).setCell ⟨nb, k * 3 + 1, none⟩ (.slice none 0 0)).setCell ⟨nb, k * 3 + 2, none⟩ (.int .i64 0)).alloc (.cells #[.int .i64 (k : Int)] 3)) := (Keep.refl _ _).alloc _
  have m2 := m1.keep kA fun _ _ h => h
  have hn3 : (((w.setCell ⟨nb, k * 3, none⟩ (.slice none 0 0)).setCell ⟨nb, k * 3 + 1, none⟩ (.slice none 0 0)).setCell ⟨nb, k * 3 + 2, none⟩ (.int .i64 0)).heap.size = w.heap.size := by simp
  have hnew := heap_alloc_new (((w.setCell ⟨nb, k * 3, none⟩ (.slice none 0 0)).setCell ⟨nb, k * 3 + 1, none⟩ (.slice none 0 0)).setCell ⟨nb, k * 3 + 2, none⟩ (.int .i64 0)) (.cells #[.int .i64 (k : Int)] 3)
  rw [hn3] at hnew
  have HRD : Kp (Rd ((((w.setCell ⟨nb, k * 3, none⟩ (.slice none 0 0)).setCell ⟨nb, k * 3 + 1, none⟩ (.slice none 0 0)).setCell ⟨nb, k * 3 + 2, none⟩ (.int .i64 0)).alloc (.cells #[.int .i64 (k : Int)] 3)) 1 (some ⟨w.heap.size, 0, none⟩) 1 [.int .i64 (k : Int)]) :=
    ⟨rfl, fun j u hj => ⟨⟨w.heap.size, 0, none⟩, rfl, by rw [Addr.add_lit, Nat.zero_add, cell_blk hnew]; simpa using hj⟩, fun u hu => by simp at hu; subst hu; rfl⟩
  have HM2 : Kp _ := ⟨m2⟩
  have HK2 : Kp _ := ⟨k1.trans (kA.mono (G := NoB) fun _ h => h) fun _ h => h.elim⟩
  have HRF : Kp _ := ⟨hRF⟩
  have hfm := m2.free.le
  clear hm hx hr hRF hnfz m1 k1 hd hna hnb kA m2 hn3 hnew
  go_enter Tryz.func164, Tryz.ntmps164
  go_wp2_with (at_builtin
               refine wpList_append_rd rfl _ _ 79 rfl 3 _ 1 8 Tryz.underlying79 info_int rfl (by decide) HM2.out.free rfl HRD.out rfl (by simp [TS.setNode]; omega) (by simp [TS.setNode]; omega) ?_
               intro a' c' b' w' h2 h3 h4
               have hbt : ¬ Opt R.fb tb := fun h => HM2.out.free.ne_blk HM2.out.hd (by decide) h
               have e0 := h3.cell HM2.out.cell1 hbt
               have e2 : w'.frozen? ⟨tb, 1, none⟩ = false := (by rw [h3.frozen (HM2.out.lt (.inl rfl)) hbt]; exact HM2.out.frozen 1)
               have hle' := h2.le
               have hmax' := h2.max
               have H2 : Kp _ := ⟨h2⟩
               have H3 : Kp _ := ⟨h3⟩
               have H4 : Kp _ := ⟨h4⟩
               clear h2 h3 h4 hbt)
  go_end0
  have hv : vint S.free ++ [.int .i64 (k : Int)] = vint (S.free ++ [k]) := by simp [vint]
  have h2 := H2.out
  simp only [TS.setNode] at h2
  rw [hv] at h2
  have hl : S.free.length + 1 = (S.free ++ [k]).length := by simp
  rw [hl] at h2
  obtain ⟨m3, k3⟩ := HM2.out.setFree a' c' b' (S.free ++ [k]) H3.out h2 H4.out
  have m4 := m3
  rw [← hl] at m4
  refine ⟨rfl, ?_, a', c', b', m4, fun g hg => (H4.out g hg).imp id fun h => Nat.le_trans HK2.out.size h, ?_⟩
  rotate_left
  · have kk := (HK2.out.mono (G := fun b => b = tb ∨ R.nb = some b ∨ R.fb = some b) fun b hb => .inr (.inl hb)).trans (k3.mono (G := fun b => b = tb ∨ R.nb = some b ∨ R.fb = some b) fun b hb => by
      rcases hb with e | e
      · exact .inr (.inr e)
      · exact .inl e) (Fresh.refl _ _)
    rw [← hl] at kk
    exact kk
  have := TPost.of HG.out m3 ((HK2.out.mono (G := F) fun b hb => HRF.out b (.inr (.inl hb))).trans (k3.mono (G := F) fun b hb => ?_) (Fresh.refl _ _)) fun b hb => ?_
  · rw [← hl] at this
    exact this
  · rcases hb with e | e
    · exact HRF.out b (.inr (.inr (.inl e)))
    · exact HRF.out b (.inl e)
  · rcases hb with e | e | e | ⟨j, q, hj, e⟩
    · exact .inl (HRF.out b (.inl e))
    · exact .inl (HRF.out b (.inr (.inl e)))
    · rcases H4.out b e with e | e
      · exact .inl (HRF.out b (.inr (.inr (.inl e))))
      · exact .inr (Nat.le_trans HK2.out.size e)
    · left
      by_cases hjk : j = k
      · subst hjk
        simp only at hj
        rw [List.getElem?_set] at hj
        simp at hj
        obtain ⟨_, rfl⟩ := hj
        rcases e with e | e <;> cases e
      · simp only at hj
        rw [List.getElem?_set_ne (Ne.symm hjk)] at hj
        exact HRF.out b (.inr (.inr (.inr ⟨j, q, hj, e⟩)))

theorem drop_calls {w : World} {tb : Nat} {S S' : TS} {F : Blocks} (h : TMem w tb S F) {k : Nat} (hd : S.drop k = some S') :
    Calls Tryz.prog 164 #[.pointer (some ⟨tb, 0, none⟩), .int .i64 (k : Int)] w fun e w' => e = .returned (.tuple #[]) ∧ TPost w F w' tb S' := by
  obtain ⟨R, hm, hRF⟩ := h.ex
  refine (drop_tm h hm hRF hd).mono ?_
  rintro e w' ⟨h1, h2, _⟩
  exact ⟨h1, h2⟩

end Go.Proofs

/- The walk of the tree's split. -/
namespace Go.Proofs
open Go.RowKit Go.Em

def optInt : Option Nat → Int
  | none => -1
  | some j => (j : Int)

theorem size0_calls (B n c n2 c2 : Nat) (ka la : Option Addr) (v : Value) (t : Nat) (w : World) (h : w.heap[B]? = some (.cells #[.slice la n2 c2, .slice ka n c, v] t (0, 0))) (h1 : n < 1048576) (h2 : n2 < 1048576) (s : Nat) (hs : n2 + n = s) :
    Calls Tryz.prog 132 #[.pointer (some ⟨B, 0, none⟩)] w fun e w' => e = .returned (.int .i64 (s : Int)) ∧ ∃ q, w' = w.drewN q := by
  subst hs
  exact size_calls B 0 n c n2 c2 ka la w (by rw [cell_blk h]; rfl) (by rw [cell_blk h]; rfl) h1 h2
theorem leaf0_calls (B n c n2 c2 : Nat) (ka la : Option Addr) (v : Value) (t : Nat) (w : World) (h : w.heap[B]? = some (.cells #[.slice la n2 c2, .slice ka n c, v] t (0, 0))) :
    Calls Tryz.prog 87 #[.pointer (some ⟨B, 0, none⟩)] w fun e w' => e = .returned (.bool (decide (n = 0))) ∧ w = w' :=
  leaf_calls B 0 n c ka w (by rw [cell_blk h]; rfl)

theorem vstr_one (l : List ByteArray) : ∀ u ∈ vstr l, u.oneCell' = true := fun u hu => by
  simp only [vstr, List.mem_map] at hu
  obtain ⟨x, _, rfl⟩ := hu
  rfl
theorem vint_one (l : List Nat) : ∀ u ∈ vint l, u.oneCell' = true := fun u hu => by
  simp only [vint, List.mem_map] at hu
  obtain ⟨x, _, rfl⟩ := hu
  rfl

theorem fresh3 (w : World) (F G : Blocks) (l k : Option Nat) (hG : ∀ b, G b → F b) (n1 : ∀ g, l = some g → w.heap.size ≤ g) (n2 : ∀ g, k = some g → w.heap.size ≤ g) : Fresh w F (fun b => G b ∨ l = some b ∨ k = some b) := fun b hb => by
  rcases hb with h | h | h
  · exact .inl (hG b h)
  · exact .inr (n1 b h)
  · exact .inr (n2 b h)

theorem _root_.Go.Em.TPost.pre {w w5 w8 : World} {F F1 : Blocks} {tb : Nat} {S' : TS} (hk : Keep w F w5) (k : TPost w5 F1 w8 tb S') (hf : Fresh w F F1) (hF : ∀ b, F b → b < w.heap.size) : TPost w F w8 tb S' := by
  have hs := hk.size
  have hs2 := k.keep.size
  refine ⟨k.mem.mono (fun b hb => ?_) (fun b hb => ?_), hk.trans k.keep hf⟩
  · have hlt := k.mem.lt b hb
    rcases hb with hb | hb
    · rcases hf b hb with h1 | h1
      · exact .inl h1
      · exact .inr ⟨h1, hlt⟩
    · exact .inr ⟨by omega, hb.2⟩
  · rcases hb with hb | hb
    · have := hF b hb; omega
    · exact hb.2

/-- A node is written anew, behind work beside the tree. -/
theorem split_mem {w W : World} {tb : Nat} {S : TS} {F : Blocks} {R : TR} (hm : TM w tb S R) (hRF : ∀ b, R.F tb b → F b) {k nb : Nat} {x : ND} {r : RN} (hx : S.nodes[k]? = some x) (hr : R.rs[k]? = some r) (hnb : R.nb = some nb)
    (r' ry : RN) (x' y : ND) {C t : Nat} {o : Obj} (hk : Keep w NoB W) (hC : W.heap[C]? = some o) (hCl : w.heap.size ≤ C)
    (hl : Sl W 9 1 r'.la x'.lines.length r'.lc (vstr x'.lines) r'.lb) (hkk : Sl W 3 1 r'.ka x'.kids.length r'.kc (vint x'.kids) r'.kb)
    (e1 : r'.lb = r.lb) (e2 : r'.kb = r.kb)
    (yl : Sl W 9 1 ry.la y.lines.length ry.lc (vstr y.lines) ry.lb) (yk : Sl W 3 1 ry.ka y.kids.length ry.kc (vint y.kids) ry.kb)
    (n1 : ∀ g, ry.lb = some g → w.heap.size ≤ g) (n2 : ∀ g, ry.kb = some g → w.heap.size ≤ g) (W5 : World)
    (hW5 : W5 = ((W.setCell ⟨nb, k * 3, none⟩ (.slice r'.la x'.lines.length r'.lc)).setCell ⟨nb, k * 3 + 1, none⟩ (.slice r'.ka x'.kids.length r'.kc)).setCell ⟨nb, k * 3 + 2, none⟩ (.int .i64 (x'.count : Int))) :
    TMem W5 tb (S.setNode k x') (fun b => F b ∧ b < W5.heap.size) ∧ Keep w F W5 ∧ W5.heap[C]? = some o ∧ Sl W5 9 1 ry.la y.lines.length ry.lc (vstr y.lines) ry.lb ∧ Sl W5 3 1 ry.ka y.kids.length ry.kc (vint y.kids) ry.kb := by
  subst hW5
  have hm1 := hm.keep hk fun _ _ h => h
  obtain ⟨m2, k2⟩ := hm1.putNode hx hnb r' x' hl hkk (fun g hg => .inl ⟨r, hr, e1 ▸ hg⟩) (fun g hg => .inl ⟨r, hr, e2 ▸ hg⟩)
  have hnbl := hm.nodes.lt hnb
  have far : ∀ g, w.heap.size ≤ g → ¬ Opt R.nb g := fun g hg e => by
    have : R.nb = some g := e
    rw [hnb] at this; cases this; omega
  refine ⟨⟨⟨_, m2, fun b hb => ⟨?_, m2.lt hb⟩⟩, fun b hb => hb.2⟩, (hk.mono (G := F) fun _ h => h.elim).trans (k2.mono (G := F) fun b hb => hRF b (.inr (.inl hb))) (Fresh.refl _ _), k2.blk hC (far _ hCl),
    yl.keep k2 fun g hg => far g (n1 g hg), yk.keep k2 fun g hg => far g (n2 g hg)⟩
  rcases hb with e | e | e | ⟨j, q, hj, e⟩
  · exact hRF b (.inl e)
  · exact hRF b (.inr (.inl e))
  · exact hRF b (.inr (.inr (.inl e)))
  · by_cases hjk : j = k
    · subst hjk
      simp only at hj
      rw [List.getElem?_set_self (List.getElem?_eq_some_iff.1 hr).1] at hj
      cases hj
      rw [e1, e2] at e
      exact hRF b (.inr (.inr (.inr ⟨j, r, hr, e⟩)))
    · simp only at hj
      rw [List.getElem?_set_ne (Ne.symm hjk)] at hj
      exact hRF b (.inr (.inr (.inr ⟨j, q, hj, e⟩)))

theorem split_inv {S S' : TS} {k : Nat} {o : Option Nat} {x : ND} (hx : S.nodes[k]? = some x) (h8 : ¬ x.size ≤ 8) (hs : S.split k = some (o, S')) :
    x.size < 1048576 ∧ ∃ x' y other S2 S3, ((x.kids = [] ∧ x' = ⟨x.lines.take (x.size / 2), x.kids, x.count⟩ ∧ y = ⟨x.lines.drop (x.size / 2), [], 0⟩) ∨
      (x.kids ≠ [] ∧ x.size / 2 < x.kids.length ∧ x' = ⟨x.lines, x.kids.take (x.size / 2), x.count⟩ ∧ y = ⟨[], x.kids.drop (x.size / 2), 0⟩)) ∧
      (S.setNode k x').make y = some (other, S2) ∧ S2.sum k = some S3 ∧ S3.sum other = some S' ∧ o = some other := by
  unfold TS.split at hs
  simp only [hx, if_neg h8] at hs
  split at hs
  · cases hs
  rename_i hcap
  refine ⟨by unfold cap at hcap; omega, ?_⟩
  have fin : ∀ x' y, (match (S.setNode k x').make y with
      | none => none
      | some (other, S2) =>
        match S2.sum k with
        | none => none
        | some S3 =>
          match S3.sum other with
          | none => none
          | some S4 => some (some other, S4)) = some (o, S') → ∃ other S2 S3, (S.setNode k x').make y = some (other, S2) ∧ S2.sum k = some S3 ∧ S3.sum other = some S' ∧ o = some other := by
    intro x' y h
    split at h
    · cases h
    · rename_i other S2 hm
      split at h
      · cases h
      · rename_i S3 h3
        split at h
        · cases h
        · rename_i S4 h4
          obtain ⟨rfl, rfl⟩ := Prod.mk.inj (Option.some.inj h)
          exact ⟨_, _, _, hm, h3, h4, rfl⟩
  by_cases hk : x.kids = []
  · simp only [if_pos hk] at hs
    obtain ⟨other, S2, S3, h⟩ := fin _ _ hs
    exact ⟨_, _, other, S2, S3, .inl ⟨hk, rfl, rfl⟩, h⟩
  · simp only [if_neg hk] at hs
    split at hs
    · rename_i hn; split at hn <;> simp at hn; cases hs
    rename_i x' y hr
    split at hr
    · rename_i hh
      obtain ⟨rfl, rfl⟩ := Prod.mk.inj (Option.some.inj hr)
      obtain ⟨other, S2, S3, h⟩ := fin _ _ hs
      exact ⟨_, _, other, S2, S3, .inr ⟨hk, hh, rfl, rfl⟩, h⟩
    · cases hr

set_option maxRecDepth 100000 in
set_option maxHeartbeats 1000000 in
theorem split_calls {w : World} {tb : Nat} {S S' : TS} {F : Blocks} (h : TMem w tb S F) {k : Nat} {o : Option Nat} (hs : S.split k = some (o, S')) :
    Calls Tryz.prog 103 #[.pointer (some ⟨tb, 0, none⟩), .int .i64 (k : Int)] w fun e w' => e = .returned (.int .i64 (optInt o)) ∧ TPost w F w' tb S' := by
  have HG : Kp _ := ⟨h⟩
  cases hx : S.nodes[k]? with
  | none => unfold TS.split at hs; simp [hx] at hs
  | some x =>
  obtain ⟨⟨R, hm, hRF⟩, hFlt⟩ := h
  obtain ⟨nb, r, hnb, hna, hr, hk, hle, hmax, c0, c1, c2⟩ := hm.node hx
  have h0 := hm.cell0
  rw [hna] at h0
  have htb : tb < w.heap.size := hm.lt (.inl rfl)
  have hnbl : nb < w.heap.size := hm.nodes.lt hnb
  have HM : Kp _ := ⟨hm⟩
  have HRF : Kp _ := ⟨hRF⟩
  have HX : Kp _ := ⟨hx⟩
  have HR : Kp _ := ⟨hr⟩
  have HNB : Kp _ := ⟨hnb⟩
  have HNA : Kp _ := ⟨hna⟩
  clear hm hRF hFlt hr hnb hna
  by_cases h8 : x.size ≤ 8
  · have ho : o = none ∧ S' = S := by
      unfold TS.split at hs
      simp only [hx, if_pos h8] at hs
      obtain ⟨rfl, rfl⟩ := Prod.mk.inj (Option.some.inj hs)
      exact ⟨rfl, rfl⟩
    obtain ⟨rfl, rfl⟩ := ho
    clear hs hx
    have hl1 : x.lines.length < 1048576 := by unfold ND.size at h8; omega
    have hl2 : x.kids.length < 1048576 := by unfold ND.size at h8; omega
    go_enter Tryz.func103, Tryz.ntmps103
    go_wp2_with ((with_reducible refine (size0_calls _ _ _ _ _ _ _ _ _ _ (heap_alloc_new w _) hl2 hl1 x.size rfl).mono ?_)
                 rintro e w' ⟨rfl, q, rfl⟩)
    go_ret
    refine ⟨rfl, TPost.of HG.out (((HM.out.keep (Keep.refl w NoB |>.alloc _) fun _ _ h => h).drewN _)) ((Keep.refl w F |>.alloc _).drewN _) fun b hb => .inl (HRF.out b hb)⟩
  · obtain ⟨hcap, x', y, other, S2, S3, hxy, hmk, hs2, hs3, rfl⟩ := split_inv hx h8 hs
    clear hs hx
    have hl1 : x.lines.length < 1048576 := by unfold ND.size at hcap; omega
    have hl2 : x.kids.length < 1048576 := by unfold ND.size at hcap; omega
    have hsz : x.lines.length + x.kids.length = x.size := rfl
    generalize x.size = sz at *
    have h8' : ¬ ((sz : Int) ≤ 8) := by omega
    have HSZ : Kp _ := ⟨hsz⟩
    have HXY : Kp _ := ⟨hxy⟩
    have HMK : Kp _ := ⟨hmk⟩
    have HS2 : Kp _ := ⟨hs2⟩
    have HS3 : Kp _ := ⟨hs3⟩
    clear hsz hxy hmk hs2 hs3
    go_enter Tryz.func103, Tryz.ntmps103
    go_wp2_with fail
    with_reducible refine (size0_calls _ _ _ _ _ _ _ _ _ _ (heap_alloc_new w _) hl2 hl1 sz HSZ.out).mono ?_
    rintro e W ⟨rfl, q, hq⟩
    have HB : Kp (W.heap[w.heap.size]? = _) := ⟨(congrArg (fun V : World => V.heap[w.heap.size]?) hq).trans (heap_alloc_new w _)⟩
    have HK : Kp (Keep w NoB W) := ⟨by rw [hq]; exact (Keep.refl w NoB |>.alloc _).drewN _⟩
    have HW : Kp (W.heap.size = w.heap.size + 1) := ⟨by rw [hq]; simp [World.drewN]⟩
    clear hq q
    go_wp2_with fail
    with_reducible refine (size0_calls _ _ _ _ _ _ _ _ _ _ HB.out hl2 hl1 sz HSZ.out).mono ?_
    rintro e W1 ⟨rfl, q, hq⟩
    replace HB : Kp (W1.heap[w.heap.size]? = _) := ⟨(congrArg (fun V : World => V.heap[w.heap.size]?) hq).trans HB.out⟩
    replace HK : Kp (Keep w NoB W1) := ⟨by rw [hq]; exact HK.out.drewN _⟩
    replace HW : Kp (W1.heap.size = w.heap.size + 1) := ⟨by rw [hq]; exact HW.out⟩
    clear hq q
    go_wp2_with fail
    have hh : (sz : Int) / 2 = ((sz / 2 : Nat) : Int) := by omega
    have hh2 : sz / 2 ≤ sz := by omega
    simp only [hh]
    have HSB : Kp (sz / 2 ≤ sz) := ⟨hh2⟩
    have HSS : Kp (8 < sz) := ⟨by omega⟩
    clear hh hh2 h8 h8'
    generalize hhalf : sz / 2 = half at *
    have hfl : half < 1048576 := by omega
    have HHF : Kp _ := ⟨hhalf⟩
    clear hhalf
    have hB1 := HB.out
    have hBlt : w.heap.size < W1.heap.size := by rw [HW.out]; omega
    generalize hW2 : W1.alloc (.cells #[.slice none 0 0, .slice none 0 0, .int .i64 0] 83) = W2
    have HB2 : Kp (W2.heap[w.heap.size]? = _) := ⟨(congrArg (fun V : World => V.heap[w.heap.size]?) hW2.symm).trans ((Below.heap_alloc W1 _ _ hBlt).trans HB.out)⟩
    have HC2 : Kp (W2.heap[W1.heap.size]? = _) := ⟨(congrArg (fun V : World => V.heap[W1.heap.size]?) hW2.symm).trans (heap_alloc_new W1 _)⟩
    have HK2 : Kp (Keep w NoB W2) := ⟨by rw [← hW2]; exact HK.out.alloc _⟩
    have HBC : Kp (W1.heap.size = w.heap.size + 1) := ⟨HW.out⟩
    clear hW2 HB HW HK hB1
    have HBw : Kp _ := ⟨(rfl : w.heap.size = w.heap.size)⟩
    generalize hBe : w.heap.size = B at *
    generalize W1.heap.size = C at *
    with_reducible refine (leaf0_calls _ _ _ _ _ _ _ _ _ _ HB2.out).mono ?_
    rintro e w' ⟨rfl, rfl⟩
    rcases HXY.out with ⟨hk0, rfl, rfl⟩ | ⟨hk0, hkh, rfl, rfl⟩
    · have hk1 : x.kids.length = 0 := by rw [hk0]; rfl
      have b0 : W2.cell? ⟨B, 0, none⟩ = some (.slice r.la x.lines.length r.lc) := by rw [cell_blk HB2.out]; rfl
      have hsl := (HM.out.lines HR.out HX.out).keep HK2.out fun _ _ h => h
      have hll := hsl.le
      have hlm := hsl.max
      have HSl : Kp _ := ⟨hsl⟩
      have hlen : half ≤ x.lines.length ∧ half ≠ r.lc := by have := HSZ.out; have := HSB.out; have := HSS.out; have := HHF.out; omega
      obtain ⟨hlen, hne⟩ := hlen
      have hrd := (Rd.of_sl hsl (vstr_one _)).drop half hll
      rw [if_neg (Ne.symm hne), Nat.mul_one] at hrd
      have HRd : Kp _ := ⟨hrd⟩
      clear hsl hk0 HXY hrd
      go_wp2_with fail
      with_reducible refine (clone_str HRd.out (by omega)).mono ?_
      rintro e W3 ⟨ya, yc, yb, rfl, ys, yk, yf⟩
      have b0 : W3.cell? ⟨B, 0, none⟩ = some (.slice r.la x.lines.length r.lc) := by rw [cell_blk (yk.blk HB2.out fun h => h)]; rfl
      have f0 : W3.frozen? ⟨B, 0, none⟩ = false := free_blk (yk.blk HB2.out fun h => h) _
      have d0 : W3.cell? ⟨C, 0, none⟩ = some (.slice none 0 0) := by rw [cell_blk (yk.blk HC2.out fun h => h)]; rfl
      have g0 : W3.frozen? ⟨C, 0, none⟩ = false := free_blk (yk.blk HC2.out fun h => h) _
      have hBC : B ≠ C := by have := HBC.out; omega
      have HY : Kp _ := ⟨ys⟩
      have HYK : Kp _ := ⟨yk⟩
      have HYF : Kp _ := ⟨yf⟩
      clear ys yk yf
      go_wp2_with fail
      with_reducible refine (clip_str (W3.setCell ⟨C, 0, none⟩ (.slice ya (x.lines.length - half) yc)) r.la half r.lc (Nat.le_trans hlen hll) hlm).mono ?_
      rintro e w' ⟨rfl, rfl⟩
      go_wp2_with fail
      generalize hW4 : (W3.setCell ⟨C, 0, none⟩ (.slice ya (x.lines.length - half) yc)).setCell ⟨B, 0, none⟩ (.slice r.la half half) = W4
      have hb4 : W4.heap[B]? = some (.cells #[.slice r.la half half, .slice r.ka x.kids.length r.kc, .int .i64 (x.count : Int)] 83 (0, 0)) := by
        rw [← hW4]
        exact Go.Em.heap_setCell_same ((Below.heap_setCell W3 ⟨C, 0, none⟩ _ B hBC).trans (HYK.out.blk HB2.out fun h => h)) 0 _
      have hc4 : W4.heap[C]? = some (.cells #[.slice ya (x.lines.length - half) yc, .slice none 0 0, .int .i64 0] 83 (0, 0)) := by
        rw [← hW4]
        exact (Below.heap_setCell _ ⟨B, 0, none⟩ _ C (Ne.symm hBC)).trans (Go.Em.heap_setCell_same (HYK.out.blk HC2.out fun h => h) 0 _)
      have hk4 : Keep w NoB W4 := by
        rw [← hW4]
        exact (((HK2.out.trans HYK.out (Fresh.refl _ _)).setCell (a := ⟨C, 0, none⟩) (.inr (by rw [hBe]; simp only []; omega)) _).setCell (a := ⟨B, 0, none⟩) (.inr (by rw [hBe]; exact Nat.le_refl _)) _)
      have hy4 : Sl W4 9 1 ya (x.lines.length - half) yc ((vstr x.lines).drop half) yb := by
        rw [← hW4]
        have hys := HY.out
        refine hys.move fun g hg => ?_
        have hg1 : W2.heap.size ≤ g := (HYF.out g hg).resolve_left (fun h => h)
        have hg2 : C < W2.heap.size := (Array.getElem?_eq_some_iff.1 HC2.out).1
        have hg3 := HBC.out
        exact (Below.heap_setCell _ ⟨B, 0, none⟩ _ g (by show g ≠ B; omega)).trans (Below.heap_setCell W3 ⟨C, 0, none⟩ _ g (by show g ≠ C; omega))
      have e0 : W4.cell? ⟨tb, 0, none⟩ = some (.slice (some ⟨nb, 0, none⟩) S.nodes.length R.nc) := hk4.cell h0 fun h => h
      have e1 : W4.cell? ⟨B, 0, none⟩ = some (.slice r.la half half) := by rw [cell_blk hb4]; rfl
      have e2 : W4.cell? ⟨B, 1, none⟩ = some (.slice r.ka x.kids.length r.kc) := by rw [cell_blk hb4]; rfl
      have e3 : W4.cell? ⟨B, 2, none⟩ = some (.int .i64 (x.count : Int)) := by rw [cell_blk hb4]; rfl
      have hz4 : ∀ i, W4.frozen? ⟨nb, i, none⟩ = false := fun i => by rw [hk4.frozen (hBe.symm ▸ hnbl) fun h => h]; exact HM.out.nodes.frozen HNB.out i
      have z0 := hz4 (k * 3)
      have z1 := hz4 (k * 3 + 1)
      have z2 := hz4 (k * 3 + 2)
      have j0 := hk4.cell c0 fun h => h
      have j1 := hk4.cell c1 fun h => h
      have j2 := hk4.cell c2 fun h => h
      have e4 : W4.cell? ⟨C, 0, none⟩ = some (.slice ya (x.lines.length - half) yc) := by rw [cell_blk hc4]; rfl
      have e5 : W4.cell? ⟨C, 1, none⟩ = some (.slice none 0 0) := by rw [cell_blk hc4]; rfl
      have e6 : W4.cell? ⟨C, 2, none⟩ = some (.int .i64 0) := by rw [cell_blk hc4]; rfl
      have hnbC : nb < C := by have := HBC.out; omega
      have hsp := split_mem HM.out HRF.out HX.out HR.out HNB.out ⟨r.la, half, r.lb, r.ka, r.kc, r.kb⟩ ⟨ya, yc, yb, none, 0, none⟩ ⟨x.lines.take half, x.kids, x.count⟩ ⟨x.lines.drop half, [], 0⟩ (C := C) (t := 0) hk4 hc4 (by rw [hBe]; have := HBC.out; omega)
        (by have := ((HM.out.lines HR.out HX.out).keep hk4 fun _ _ h => h).take half hlen; rw [Nat.mul_one] at this; have h2 := this.clip half (Nat.le_refl _) (Nat.le_trans hlen hll); simp only [vstr, ← List.map_take, List.length_take, Nat.min_eq_left hlen] at h2 ⊢; exact h2) ((HM.out.kids HR.out HX.out).keep hk4 fun _ _ h => h) rfl rfl (by simp only [vstr, ← List.map_drop, List.length_drop] at hy4 ⊢; exact hy4) (Sl.nil _ _ _) (fun g hg => Nat.le_trans HK2.out.size ((HYF.out g hg).resolve_left (fun h => h))) (fun g hg => by cases hg) (((W4.setCell ⟨nb, k * 3, none⟩ (.slice r.la half half)).setCell ⟨nb, k * 3 + 1, none⟩ (.slice r.ka x.kids.length r.kc)).setCell ⟨nb, k * 3 + 2, none⟩ (.int .i64 (x.count : Int)))
        (by simp only [List.length_take, Nat.min_eq_left hlen])
      have HSP : Kp _ := ⟨hsp⟩
      clear hsp
      have HB4 : Kp _ := ⟨hb4⟩
      have HC4 : Kp _ := ⟨hc4⟩
      have HK4 : Kp _ := ⟨hk4⟩
      have HY4 : Kp _ := ⟨hy4⟩
      clear hz4 hb4 hc4 hk4 hy4 hW4 b0 f0 d0 g0 hk1 c0 c1 c2 h0
      refine wp_region_plan (fun W => W.cell? ⟨tb, 0, none⟩ = some (.slice (some ⟨nb, 0, none⟩) S.nodes.length R.nc) ∧ W.cell? ⟨B, 0, none⟩ = some (.slice r.la half half) ∧ W.cell? ⟨B, 1, none⟩ = some (.slice r.ka x.kids.length r.kc) ∧
        W.cell? ⟨B, 2, none⟩ = some (.int .i64 (x.count : Int))) [(true, 0), (true, 1), (true, 2), (true, 3), (true, 4), (true, 5)] 6 (by kernel_rfl) (by kernel_rfl) (fun _ _ d _ _ h => by cases d <;> exact h) (by go_simp) ?_
      iterate 6
        (refine' plan_read _ rfl rfl ?_ ?_
         rotate_left
         · (intro W hW; (try dsimp only at hW); go_simp; try rfl)
         simp only [Act.put, List.setIfInBounds_toArray, List.set_cons_zero, List.set_cons_succ])
      refine plan_end ?_
      simp only [List.drop_succ_cons, List.drop_zero]
      go_wp2_with fail
      obtain ⟨m5, k5, c5, l5, q5⟩ := HSP.out
      have hF5 : ∀ b, F b → b < w.heap.size := fun b hb => HG.out.lt b hb
      have l6 := l5.keep ((Keep.refl _ NoB).drew) fun _ _ h => h
      have q6 := q5.keep ((Keep.refl _ NoB).drew) fun _ _ h => h
      have m6 := m5.drew
      have mk := make_calls m6 (r := ⟨ya, yc, yb, none, 0, none⟩) HMK.out l6 q6 (fun g hg h => by have h1 := hF5 g h.1; have h2 : w.heap.size ≤ g := (fun g hg => Nat.le_trans HK2.out.size ((HYF.out g hg).resolve_left (fun h => h))) g hg; omega) (fun g hg h => by have h1 := hF5 g h.1; have h2 : w.heap.size ≤ g := (fun g hg => by cases hg) g hg; omega)
      have KK : Kp (Keep w F _) := ⟨k5.drew⟩
      simp only [List.length_drop, List.length_nil] at mk
      refine mk.mono ?_
      clear m5 k5 c5 l5 q5 l6 q6 m6 mk e0 e1 e2 e3 e4 e5 e6 z0 z1 z2 j0 j1 j2
      rintro e W6 ⟨rfl, p6⟩
      have P6 : Kp _ := ⟨p6⟩
      clear p6
      go_wp2_with fail
      refine (sum_calls P6.out.mem HS2.out).mono ?_
      rintro e W7 ⟨rfl, p7⟩
      have P7 : Kp _ := ⟨P6.out.trans p7⟩
      clear p7 P6
      go_wp2_with fail
      refine (sum_calls P7.out.mem HS3.out).mono ?_
      rintro e W8 ⟨rfl, p8⟩
      have P8 : Kp _ := ⟨P7.out.trans p8⟩
      clear p8 P7
      go_wp2_with fail
      go_ret
      exact ⟨rfl, TPost.pre KK.out P8.out (fresh3 _ _ _ _ _ (by intro b h; exact h.1) (fun g hg => Nat.le_trans HK2.out.size ((HYF.out g hg).resolve_left (fun h => h))) (fun g hg => by cases hg)) hF5⟩
    · have hk1 : x.kids.length ≠ 0 := by rw [Ne, List.length_eq_zero_iff]; exact hk0
      have b0 : W2.cell? ⟨B, 1, none⟩ = some (.slice r.ka x.kids.length r.kc) := by rw [cell_blk HB2.out]; rfl
      have hsl := (HM.out.kids HR.out HX.out).keep HK2.out fun _ _ h => h
      have hll := hsl.le
      have hlm := hsl.max
      have HSl : Kp _ := ⟨hsl⟩
      have hlen : half ≤ x.kids.length ∧ half ≠ r.kc := by have := HSZ.out; have := HSB.out; have := HSS.out; have := HHF.out; omega
      obtain ⟨hlen, hne⟩ := hlen
      have hrd := (Rd.of_sl hsl (vint_one _)).drop half hll
      rw [if_neg (Ne.symm hne), Nat.mul_one] at hrd
      have HRd : Kp _ := ⟨hrd⟩
      clear hsl hk0 HXY hrd
      go_wp2_with fail
      with_reducible refine (clone_int HRd.out (by omega)).mono ?_
      rintro e W3 ⟨ya, yc, yb, rfl, ys, yk, yf⟩
      have b0 : W3.cell? ⟨B, 1, none⟩ = some (.slice r.ka x.kids.length r.kc) := by rw [cell_blk (yk.blk HB2.out fun h => h)]; rfl
      have f0 : W3.frozen? ⟨B, 1, none⟩ = false := free_blk (yk.blk HB2.out fun h => h) _
      have d0 : W3.cell? ⟨C, 1, none⟩ = some (.slice none 0 0) := by rw [cell_blk (yk.blk HC2.out fun h => h)]; rfl
      have g0 : W3.frozen? ⟨C, 1, none⟩ = false := free_blk (yk.blk HC2.out fun h => h) _
      have hBC : B ≠ C := by have := HBC.out; omega
      have HY : Kp _ := ⟨ys⟩
      have HYK : Kp _ := ⟨yk⟩
      have HYF : Kp _ := ⟨yf⟩
      clear ys yk yf
      go_wp2_with fail
      with_reducible refine (clip_int (W3.setCell ⟨C, 1, none⟩ (.slice ya (x.kids.length - half) yc)) r.ka half r.kc (Nat.le_trans hlen hll) hlm).mono ?_
      rintro e w' ⟨rfl, rfl⟩
      go_wp2_with fail
      generalize hW4 : (W3.setCell ⟨C, 1, none⟩ (.slice ya (x.kids.length - half) yc)).setCell ⟨B, 1, none⟩ (.slice r.ka half half) = W4
      have hb4 : W4.heap[B]? = some (.cells #[.slice r.la x.lines.length r.lc, .slice r.ka half half, .int .i64 (x.count : Int)] 83 (0, 0)) := by
        rw [← hW4]
        exact Go.Em.heap_setCell_same ((Below.heap_setCell W3 ⟨C, 1, none⟩ _ B hBC).trans (HYK.out.blk HB2.out fun h => h)) 1 _
      have hc4 : W4.heap[C]? = some (.cells #[.slice none 0 0, .slice ya (x.kids.length - half) yc, .int .i64 0] 83 (0, 0)) := by
        rw [← hW4]
        exact (Below.heap_setCell _ ⟨B, 1, none⟩ _ C (Ne.symm hBC)).trans (Go.Em.heap_setCell_same (HYK.out.blk HC2.out fun h => h) 1 _)
      have hk4 : Keep w NoB W4 := by
        rw [← hW4]
        exact (((HK2.out.trans HYK.out (Fresh.refl _ _)).setCell (a := ⟨C, 1, none⟩) (.inr (by rw [hBe]; simp only []; omega)) _).setCell (a := ⟨B, 1, none⟩) (.inr (by rw [hBe]; exact Nat.le_refl _)) _)
      have hy4 : Sl W4 3 1 ya (x.kids.length - half) yc ((vint x.kids).drop half) yb := by
        rw [← hW4]
        have hys := HY.out
        refine hys.move fun g hg => ?_
        have hg1 : W2.heap.size ≤ g := (HYF.out g hg).resolve_left (fun h => h)
        have hg2 : C < W2.heap.size := (Array.getElem?_eq_some_iff.1 HC2.out).1
        have hg3 := HBC.out
        exact (Below.heap_setCell _ ⟨B, 1, none⟩ _ g (by show g ≠ B; omega)).trans (Below.heap_setCell W3 ⟨C, 1, none⟩ _ g (by show g ≠ C; omega))
      have e0 : W4.cell? ⟨tb, 0, none⟩ = some (.slice (some ⟨nb, 0, none⟩) S.nodes.length R.nc) := hk4.cell h0 fun h => h
      have e1 : W4.cell? ⟨B, 0, none⟩ = some (.slice r.la x.lines.length r.lc) := by rw [cell_blk hb4]; rfl
      have e2 : W4.cell? ⟨B, 1, none⟩ = some (.slice r.ka half half) := by rw [cell_blk hb4]; rfl
      have e3 : W4.cell? ⟨B, 2, none⟩ = some (.int .i64 (x.count : Int)) := by rw [cell_blk hb4]; rfl
      have hz4 : ∀ i, W4.frozen? ⟨nb, i, none⟩ = false := fun i => by rw [hk4.frozen (hBe.symm ▸ hnbl) fun h => h]; exact HM.out.nodes.frozen HNB.out i
      have z0 := hz4 (k * 3)
      have z1 := hz4 (k * 3 + 1)
      have z2 := hz4 (k * 3 + 2)
      have j0 := hk4.cell c0 fun h => h
      have j1 := hk4.cell c1 fun h => h
      have j2 := hk4.cell c2 fun h => h
      have e4 : W4.cell? ⟨C, 0, none⟩ = some (.slice none 0 0) := by rw [cell_blk hc4]; rfl
      have e5 : W4.cell? ⟨C, 1, none⟩ = some (.slice ya (x.kids.length - half) yc) := by rw [cell_blk hc4]; rfl
      have e6 : W4.cell? ⟨C, 2, none⟩ = some (.int .i64 0) := by rw [cell_blk hc4]; rfl
      have hnbC : nb < C := by have := HBC.out; omega
      have hsp := split_mem HM.out HRF.out HX.out HR.out HNB.out ⟨r.la, r.lc, r.lb, r.ka, half, r.kb⟩ ⟨none, 0, none, ya, yc, yb⟩ ⟨x.lines, x.kids.take half, x.count⟩ ⟨[], x.kids.drop half, 0⟩ (C := C) (t := 0) hk4 hc4 (by rw [hBe]; have := HBC.out; omega)
        ((HM.out.lines HR.out HX.out).keep hk4 fun _ _ h => h) (by have := ((HM.out.kids HR.out HX.out).keep hk4 fun _ _ h => h).take half hlen; rw [Nat.mul_one] at this; have h2 := this.clip half (Nat.le_refl _) (Nat.le_trans hlen hll); simp only [vint, ← List.map_take, List.length_take, Nat.min_eq_left hlen] at h2 ⊢; exact h2) rfl rfl (Sl.nil _ _ _) (by simp only [vint, ← List.map_drop, List.length_drop] at hy4 ⊢; exact hy4) (fun g hg => by cases hg) (fun g hg => Nat.le_trans HK2.out.size ((HYF.out g hg).resolve_left (fun h => h))) (((W4.setCell ⟨nb, k * 3, none⟩ (.slice r.la x.lines.length r.lc)).setCell ⟨nb, k * 3 + 1, none⟩ (.slice r.ka half half)).setCell ⟨nb, k * 3 + 2, none⟩ (.int .i64 (x.count : Int)))
        (by simp only [List.length_take, Nat.min_eq_left hlen])
      have HSP : Kp _ := ⟨hsp⟩
      clear hsp
      have HB4 : Kp _ := ⟨hb4⟩
      have HC4 : Kp _ := ⟨hc4⟩
      have HK4 : Kp _ := ⟨hk4⟩
      have HY4 : Kp _ := ⟨hy4⟩
      clear hz4 hb4 hc4 hk4 hy4 hW4 b0 f0 d0 g0 hk1 c0 c1 c2 h0
      refine wp_region_plan (fun W => W.cell? ⟨tb, 0, none⟩ = some (.slice (some ⟨nb, 0, none⟩) S.nodes.length R.nc) ∧ W.cell? ⟨B, 0, none⟩ = some (.slice r.la x.lines.length r.lc) ∧ W.cell? ⟨B, 1, none⟩ = some (.slice r.ka half half) ∧
        W.cell? ⟨B, 2, none⟩ = some (.int .i64 (x.count : Int))) [(true, 0), (true, 1), (true, 2), (true, 3), (true, 4), (true, 5)] 6 (by kernel_rfl) (by kernel_rfl) (fun _ _ d _ _ h => by cases d <;> exact h) (by go_simp) ?_
      iterate 6
        (refine' plan_read _ rfl rfl ?_ ?_
         rotate_left
         · (intro W hW; (try dsimp only at hW); go_simp; try rfl)
         simp only [Act.put, List.setIfInBounds_toArray, List.set_cons_zero, List.set_cons_succ])
      refine plan_end ?_
      simp only [List.drop_succ_cons, List.drop_zero]
      go_wp2_with fail
      obtain ⟨m5, k5, c5, l5, q5⟩ := HSP.out
      have hF5 : ∀ b, F b → b < w.heap.size := fun b hb => HG.out.lt b hb
      have l6 := l5.keep ((Keep.refl _ NoB).drew) fun _ _ h => h
      have q6 := q5.keep ((Keep.refl _ NoB).drew) fun _ _ h => h
      have m6 := m5.drew
      have mk := make_calls m6 (r := ⟨none, 0, none, ya, yc, yb⟩) HMK.out l6 q6 (fun g hg h => by have h1 := hF5 g h.1; have h2 : w.heap.size ≤ g := (fun g hg => by cases hg) g hg; omega) (fun g hg h => by have h1 := hF5 g h.1; have h2 : w.heap.size ≤ g := (fun g hg => Nat.le_trans HK2.out.size ((HYF.out g hg).resolve_left (fun h => h))) g hg; omega)
      have KK : Kp (Keep w F _) := ⟨k5.drew⟩
      simp only [List.length_drop, List.length_nil] at mk
      refine mk.mono ?_
      clear m5 k5 c5 l5 q5 l6 q6 m6 mk e0 e1 e2 e3 e4 e5 e6 z0 z1 z2 j0 j1 j2
      rintro e W6 ⟨rfl, p6⟩
      have P6 : Kp _ := ⟨p6⟩
      clear p6
      go_wp2_with fail
      refine (sum_calls P6.out.mem HS2.out).mono ?_
      rintro e W7 ⟨rfl, p7⟩
      have P7 : Kp _ := ⟨P6.out.trans p7⟩
      clear p7 P6
      go_wp2_with fail
      refine (sum_calls P7.out.mem HS3.out).mono ?_
      rintro e W8 ⟨rfl, p8⟩
      have P8 : Kp _ := ⟨P7.out.trans p8⟩
      clear p8 P7
      go_wp2_with fail
      go_ret
      exact ⟨rfl, TPost.pre KK.out P8.out (fresh3 _ _ _ _ _ (by intro b h; exact h.1) (fun g hg => by cases hg) (fun g hg => Nat.le_trans HK2.out.size ((HYF.out g hg).resolve_left (fun h => h)))) hF5⟩

end Go.Proofs

/- slices.Insert of one value, at slices that have a block of their own, over any program that bears the library's text. -/
namespace Go.Em
open Go.RowKit Go.Shelf Go.Proofs
variable {P : Program} {ρ : Ren}

theorem heap_setCells {g t : Nat} {fr : Nat × Nat} : ∀ (vs : List Value) (o : Nat) {w : World} {cs : Array Value}, w.heap[g]? = some (.cells cs t fr) → o + vs.length ≤ cs.size →
    ∃ cs' : Array Value, (w.setCells g o vs).heap[g]? = some (.cells cs' t fr) ∧ cs'.toList = cs.toList.take o ++ vs ++ cs.toList.drop (o + vs.length) ∧ cs'.size = cs.size
  | [], o, w, cs, h, _ => ⟨cs, h, by simp, rfl⟩
  | v :: r, o, w, cs, h, hl => by
    simp only [List.length_cons] at hl
    have h1 := heap_setCell_same h o v
    obtain ⟨cs', h2, h3, h4⟩ := heap_setCells r (o + 1) h1 (by simp; omega)
    refine ⟨cs', h2, ?_, by simpa using h4⟩
    rw [h3, Array.toList_setIfInBounds]
    have e1 : (cs.toList.set o v).take (o + 1) = cs.toList.take o ++ [v] := by
      rw [List.take_set, List.take_add_one, List.getElem?_eq_getElem (by simp; omega)]
      rw [List.set_append_right _ _ (by simp; omega)]
      simp [List.length_take, Nat.min_eq_left (show o ≤ cs.size by omega)]
    have e2 : (cs.toList.set o v).drop (o + 1 + r.length) = cs.toList.drop (o + 1 + r.length) := by rw [List.drop_set_of_lt (by omega)]
    rw [e1, e2, show o + (v :: r).length = o + 1 + r.length by simp; omega]
    simp
theorem size_setCells (g : Nat) : ∀ (vs : List Value) (o : Nat) (w : World), (w.setCells g o vs).heap.size = w.heap.size
  | [], _, _ => rfl
  | v :: r, o, w => by rw [World.setCells, size_setCells g r]; simp [World.setCell]
theorem Keep.setCells {w : World} {F : Blocks} {g : Nat} (ha : F g ∨ w.heap.size ≤ g) : ∀ (vs : List Value) (o : Nat) {w1 : World}, Keep w F w1 → Keep w F (w1.setCells g o vs)
  | [], _, _, h => h
  | v :: r, o, _, h => Keep.setCells ha r (o + 1) (h.setCell (a := ⟨g, o, none⟩) ha v)

theorem take_le_self {α : Type} {l : List α} {n : Nat} (h : l.length ≤ n) : l.take n = l := List.take_of_length_le h

theorem insert_str (L : Lays2.n22 P ρ) {w : World} {a : Option Addr} {n c : Nat} {xs : List Value} {b : Option Nat} (h : Sl w (ρ.t 9) 1 a n c xs b) (h1 : ∀ v ∈ xs, v.oneCell' = true) {i : Nat} (hi : i ≤ n) (hn : n < 1048576)
    {vb t : Nat} {v : Value} (hv : v.oneCell' = true) (hvb : w.heap[vb]? = some (.cells #[v] t (0, 0))) (hne : b ≠ some vb) :
    Calls P (ρ.f 22) #[.slice a n c, .int .i64 (i : Int), .slice (some ⟨vb, 0, none⟩) 1 1] w fun e w' => ∃ a' c' b', e = .returned (.slice a' (n + 1) c') ∧ Sl w' (ρ.t 9) 1 a' (n + 1) c' (xs.take i ++ v :: xs.drop i) b' ∧ Keep w (Opt b) w' ∧ Fresh w (Opt b) (Opt b') := by
  have hlen : xs.length = n := by have := h.len; omega
  have hvs : ∀ j u, [v][j]? = some u → w.cell? ⟨vb, 0 + j, none⟩ = some u := by
    intro j u hj
    rw [Nat.zero_add, cell_blk hvb]
    simpa using hj
  have h1v : ∀ u ∈ [v], u.oneCell' = true := fun u hu => by simp at hu; subst hu; exact hv
  have hle := h.le
  have hmax := h.max
  by_cases hroom : n + 1 ≤ c
  · obtain ⟨g, cur, rfl, rfl, hg, hcs, htk⟩ := h.has (by omega)
    simp only [Nat.mul_one] at hcs htk
    have hcell : ∀ j u, xs[j]? = some u → w.cell? ⟨g, 0 + j, none⟩ = some u := fun j u hj => by rw [Nat.zero_add]; exact h.cell rfl hj
    have hsome : ∀ j, j < n + 1 → (w.cell? ⟨g, 0 + j, none⟩).isSome = true := fun j hj => by
      rw [Nat.zero_add, cell_blk hg, Array.getElem?_eq_getElem (by omega)]; rfl
    have hfz : ∀ j, w.frozen? ⟨g, 0 + j, none⟩ = false := fun j => free_blk hg _
    have hne' : vb ≠ g := fun e => hne (by rw [e])
    by_cases hin : i < n
    · refine (Any2.slices_Insert_string_shift L g 0 n c i vb 0 1 1 xs [v] w hin (by omega) hroom hmax hne' hlen rfl hcell hsome (fun j _ => hfz j) hvs h1 h1v t (ρ.t 9) 1 cur.size
        (by simp [World.shape?, hvb]) (by simp [World.shape?, hg]) (by omega) (free_blk hvb _) (free_blk hvb _)).mono ?_
      rintro e w' ⟨rfl, rfl⟩
      have hk1 : Keep w (Opt (some g)) (w.drew.setCells g (0 + (i + 1)) (xs.drop i)) := Keep.setCells (F := Opt (some g)) (g := g) (.inl rfl) _ _ (Keep.refl w _).drew
      obtain ⟨c1, q1, q2, q3⟩ := heap_setCells (xs.drop i) (0 + (i + 1)) (w := w.drew) hg (by simp; omega)
      obtain ⟨c2, q4, q5, q6⟩ := heap_setCells [v] (0 + i) q1 (by simp; omega)
      refine ⟨_, _, some g, rfl, ⟨by simp; omega, hroom, hmax, .inr ⟨g, c2, rfl, rfl, q4, by omega, ?_⟩⟩, Keep.setCells (F := Opt (some g)) (g := g) (.inl rfl) _ _ hk1, Fresh.refl _ _⟩
      rw [q5, q2]
      have hcl : cur.toList = xs ++ cur.toList.drop n := by rw [← htk, List.take_append_drop]
      have e0 : cur.toList.take (0 + (i + 1)) = xs.take i ++ (cur.toList.drop i).take 1 := by rw [Nat.zero_add, List.take_add]; congr 1; rw [← htk, List.take_take, Nat.min_eq_left hi]
      have hl1 : ((cur.toList.drop i).take 1).length = 1 := by simp; omega
      have hl2 : (xs.take i).length = i := by simp; omega
      rw [e0]
      simp only [Nat.zero_add, List.length_cons, List.length_nil, Nat.mul_one]
      generalize (cur.toList.drop i).take 1 = y at hl1 ⊢
      generalize cur.toList.drop (i + 1 + (xs.drop i).length) = tl
      have e1 : (xs.take i ++ y ++ xs.drop i ++ tl).take i = xs.take i := by
        rw [List.append_assoc, List.append_assoc, List.take_left' hl2]
      have e2 : (xs.take i ++ y ++ xs.drop i ++ tl).drop (i + 1) = xs.drop i ++ tl := by
        rw [List.append_assoc, List.drop_left' (by simp [hl2, hl1])]
      rw [e1, e2]
      have : xs.take i ++ [v] ++ (xs.drop i ++ tl) = (xs.take i ++ v :: xs.drop i) ++ tl := by simp
      rw [this, List.take_left' (by simp; omega)]
    · have : i = n := by omega
      subst this
      refine (Any2.slices_Insert_string_end_room L g 0 i c vb 0 1 1 [v] w (by omega) hroom hmax rfl (fun j hj => by rw [Nat.add_assoc]; exact hsome (i + j) (by omega)) (fun j _ => by rw [Nat.add_assoc]; exact hfz _) hvs h1v).mono ?_
      rintro e w' ⟨rfl, rfl⟩
      obtain ⟨c2, q4, q5, q6⟩ := heap_setCells [v] (0 + i) (w := w) hg (by simp; omega)
      refine ⟨_, _, some g, rfl, ⟨by simp; omega, hroom, hmax, .inr ⟨g, c2, rfl, rfl, q4, by omega, ?_⟩⟩, Keep.setCells (F := Opt (some g)) (g := g) (.inl rfl) _ _ (Keep.refl w _), Fresh.refl _ _⟩
      have ed : xs.drop i = [] := List.drop_eq_nil_of_le (by omega)
      have et : xs.take i = xs := List.take_of_length_le (by omega)
      rw [q5, Nat.zero_add, htk, ed, et, Nat.mul_one]
      exact List.take_left' (by simp; omega)
  · by_cases hin : i < n
    · obtain ⟨g, cur, rfl, rfl, hg, hcs, htk⟩ := h.has (by omega)
      have hcell : ∀ j u, xs[j]? = some u → w.cell? ⟨g, 0 + j, none⟩ = some u := fun j u hj => by rw [Nat.zero_add]; exact h.cell rfl hj
      refine (Any2.slices_Insert_string_grow L g 0 n c i vb 0 1 1 xs [v] w hin (by omega) hle (by omega) (by omega) hlen rfl hcell hvs h1 h1v).mono ?_
      rintro e w' ⟨rfl, rfl⟩
      have hge := grownCap_ge w (n + 1) c (ρ.t 9)
      have hgm := grownCap_le_maxLen w (n + 1) c (ρ.t 9) (by simp only [maxLen]; omega)
      generalize grownCap w (n + 1) c (ρ.t 9) = gc at *
      generalize hrow : (xs.take i).toArray ++ Builtin.zeroCells (Value.string ⟨#[]⟩).cells (n + 1 - i) ++ Builtin.zeroCells (Value.string ⟨#[]⟩).cells (gc - (n + 1)) = row
      have hrl : row.size = gc := by
        rw [← hrow]; simp only [Array.size_append, List.size_toArray, size_zeroCells]
        have hz : (Value.string ⟨#[]⟩).cells.size = 1 := rfl
        rw [hz]; simp; omega
      have hrt : row.toList.take i = xs.take i := by
        rw [← hrow]; simp only [Array.toList_append, List.append_assoc]; rw [List.take_left' (by simp; omega)]
      have hnew : (w.alloc (.cells row (ρ.t 9))).drew.heap[w.heap.size]? = some (.cells row (ρ.t 9) (0, 0)) := heap_alloc_new w _
      obtain ⟨c1, q1, q2, q3⟩ := heap_setCells [v] i (w := (w.alloc (.cells row (ρ.t 9))).drew) hnew (by simp; omega)
      obtain ⟨c2, q4, q5, q6⟩ := heap_setCells (xs.drop i) (i + 1) (w := ((w.alloc (.cells row (ρ.t 9))).drew.setCells w.heap.size i [v]).drew) q1 (by simp; omega)
      refine ⟨_, _, some w.heap.size, rfl, ⟨by simp; omega, hge, by simpa only [maxLen] using hgm, .inr ⟨_, c2, rfl, rfl, q4, by omega, ?_⟩⟩, ?_, fun b hb => .inr (by cases hb; exact Nat.le_refl _)⟩
      · rw [q5, q2, hrt]
        have hl2 : (xs.take i).length = i := by simp; omega
        simp only [Nat.mul_one, List.length_cons, List.length_nil, Nat.zero_add]
        generalize row.toList.drop (i + 1) = tl
        have e1 : (xs.take i ++ [v] ++ tl).take (i + 1) = xs.take i ++ [v] := List.take_left' (by simp; omega)
        rw [e1]
        generalize (xs.take i ++ [v] ++ tl).drop (i + 1 + (xs.drop i).length) = t2
        have e2 : xs.take i ++ [v] ++ xs.drop i ++ t2 = (xs.take i ++ v :: xs.drop i) ++ t2 := by simp
        rw [e2]
        exact List.take_left' (by simp; omega)
      · exact Keep.setCells (.inr (Nat.le_refl _)) _ _ (Keep.setCells (.inr (Nat.le_refl _)) _ _ ((Keep.refl w _).alloc _).drew).drew
    · have : i = n := by omega
      subst this
      refine (Any2.slices_Insert_string_end_grow L a i c vb 0 1 1 xs [v] w (by omega) hle (by omega) (by omega) hlen rfl (fun ha => by
        rcases Nat.eq_zero_or_pos i with h0 | h0
        · exact h0
        · obtain ⟨g, _, hga⟩ := h.nonnil h0; rw [ha] at hga; cases hga) (fun ad had j u hj => by
        have hp : 0 < i := by have := (List.getElem?_eq_some_iff.1 hj).1; omega
        obtain ⟨g, hgb, hga⟩ := h.nonnil hp
        rw [had] at hga; cases hga
        rw [Addr.add_lit, Nat.zero_add]; exact h.cell hgb hj) hvs h1v).mono ?_
      rintro e w' ⟨rfl, rfl⟩
      have hge := grownCap_ge w (i + 1) c (ρ.t 9)
      have hgm := grownCap_le_maxLen w (i + 1) c (ρ.t 9) (by simp only [maxLen]; omega)
      generalize grownCap w (i + 1) c (ρ.t 9) = gc at *
      generalize hrow : (xs ++ [v]).toArray ++ Builtin.zeroCells (Value.string ⟨#[]⟩).cells (gc - (i + 1)) = row
      have hrl : row.size = gc := by
        rw [← hrow]; simp only [Array.size_append, List.size_toArray, size_zeroCells]
        have hz : (Value.string ⟨#[]⟩).cells.size = 1 := rfl
        rw [hz]; simp; omega
      have := Sl.made w.drew (ρ.t 9) 1 (i + 1) gc row hge (by simpa only [maxLen] using hgm) (by omega)
      refine ⟨_, _, some w.heap.size, rfl, ?_, ((Keep.refl w _).drew).alloc _, fun b hb => .inr (by cases hb; exact Nat.le_refl _)⟩
      have e1 : row.toList.take ((i + 1) * 1) = xs.take i ++ v :: xs.drop i := by
        rw [← hrow]; simp only [Array.toList_append, Nat.mul_one]
        rw [List.take_left' (by simp; omega), List.take_of_length_le (l := xs) (by omega), List.drop_eq_nil_of_le (by omega)]
      rw [e1] at this
      exact this

theorem insert_int (L : Lays2.n21 P ρ) {w : World} {a : Option Addr} {n c : Nat} {xs : List Value} {b : Option Nat} (h : Sl w (ρ.t 3) 1 a n c xs b) (h1 : ∀ v ∈ xs, v.oneCell' = true) {i : Nat} (hi : i ≤ n) (hn : n < 1048576)
    {vb t : Nat} {v : Value} (hv : v.oneCell' = true) (hvb : w.heap[vb]? = some (.cells #[v] t (0, 0))) (hne : b ≠ some vb) :
    Calls P (ρ.f 21) #[.slice a n c, .int .i64 (i : Int), .slice (some ⟨vb, 0, none⟩) 1 1] w fun e w' => ∃ a' c' b', e = .returned (.slice a' (n + 1) c') ∧ Sl w' (ρ.t 3) 1 a' (n + 1) c' (xs.take i ++ v :: xs.drop i) b' ∧ Keep w (Opt b) w' ∧ Fresh w (Opt b) (Opt b') := by
  have hlen : xs.length = n := by have := h.len; omega
  have hvs : ∀ j u, [v][j]? = some u → w.cell? ⟨vb, 0 + j, none⟩ = some u := by
    intro j u hj
    rw [Nat.zero_add, cell_blk hvb]
    simpa using hj
  have h1v : ∀ u ∈ [v], u.oneCell' = true := fun u hu => by simp at hu; subst hu; exact hv
  have hle := h.le
  have hmax := h.max
  by_cases hroom : n + 1 ≤ c
  · obtain ⟨g, cur, rfl, rfl, hg, hcs, htk⟩ := h.has (by omega)
    simp only [Nat.mul_one] at hcs htk
    have hcell : ∀ j u, xs[j]? = some u → w.cell? ⟨g, 0 + j, none⟩ = some u := fun j u hj => by rw [Nat.zero_add]; exact h.cell rfl hj
    have hsome : ∀ j, j < n + 1 → (w.cell? ⟨g, 0 + j, none⟩).isSome = true := fun j hj => by
      rw [Nat.zero_add, cell_blk hg, Array.getElem?_eq_getElem (by omega)]; rfl
    have hfz : ∀ j, w.frozen? ⟨g, 0 + j, none⟩ = false := fun j => free_blk hg _
    have hne' : vb ≠ g := fun e => hne (by rw [e])
    by_cases hin : i < n
    · refine (Any2.slices_Insert_int_shift L g 0 n c i vb 0 1 1 xs [v] w hin (by omega) hroom hmax hne' hlen rfl hcell hsome (fun j _ => hfz j) hvs h1 h1v t (ρ.t 3) 1 cur.size
        (by simp [World.shape?, hvb]) (by simp [World.shape?, hg]) (by omega) (free_blk hvb _) (free_blk hvb _)).mono ?_
      rintro e w' ⟨rfl, rfl⟩
      have hk1 : Keep w (Opt (some g)) (w.drew.setCells g (0 + (i + 1)) (xs.drop i)) := Keep.setCells (F := Opt (some g)) (g := g) (.inl rfl) _ _ (Keep.refl w _).drew
      obtain ⟨c1, q1, q2, q3⟩ := heap_setCells (xs.drop i) (0 + (i + 1)) (w := w.drew) hg (by simp; omega)
      obtain ⟨c2, q4, q5, q6⟩ := heap_setCells [v] (0 + i) q1 (by simp; omega)
      refine ⟨_, _, some g, rfl, ⟨by simp; omega, hroom, hmax, .inr ⟨g, c2, rfl, rfl, q4, by omega, ?_⟩⟩, Keep.setCells (F := Opt (some g)) (g := g) (.inl rfl) _ _ hk1, Fresh.refl _ _⟩
      rw [q5, q2]
      have hcl : cur.toList = xs ++ cur.toList.drop n := by rw [← htk, List.take_append_drop]
      have e0 : cur.toList.take (0 + (i + 1)) = xs.take i ++ (cur.toList.drop i).take 1 := by rw [Nat.zero_add, List.take_add]; congr 1; rw [← htk, List.take_take, Nat.min_eq_left hi]
      have hl1 : ((cur.toList.drop i).take 1).length = 1 := by simp; omega
      have hl2 : (xs.take i).length = i := by simp; omega
      rw [e0]
      simp only [Nat.zero_add, List.length_cons, List.length_nil, Nat.mul_one]
      generalize (cur.toList.drop i).take 1 = y at hl1 ⊢
      generalize cur.toList.drop (i + 1 + (xs.drop i).length) = tl
      have e1 : (xs.take i ++ y ++ xs.drop i ++ tl).take i = xs.take i := by
        rw [List.append_assoc, List.append_assoc, List.take_left' hl2]
      have e2 : (xs.take i ++ y ++ xs.drop i ++ tl).drop (i + 1) = xs.drop i ++ tl := by
        rw [List.append_assoc, List.drop_left' (by simp [hl2, hl1])]
      rw [e1, e2]
      have : xs.take i ++ [v] ++ (xs.drop i ++ tl) = (xs.take i ++ v :: xs.drop i) ++ tl := by simp
      rw [this, List.take_left' (by simp; omega)]
    · have : i = n := by omega
      subst this
      refine (Any2.slices_Insert_int_end_room L g 0 i c vb 0 1 1 [v] w (by omega) hroom hmax rfl (fun j hj => by rw [Nat.add_assoc]; exact hsome (i + j) (by omega)) (fun j _ => by rw [Nat.add_assoc]; exact hfz _) hvs h1v).mono ?_
      rintro e w' ⟨rfl, rfl⟩
      obtain ⟨c2, q4, q5, q6⟩ := heap_setCells [v] (0 + i) (w := w) hg (by simp; omega)
      refine ⟨_, _, some g, rfl, ⟨by simp; omega, hroom, hmax, .inr ⟨g, c2, rfl, rfl, q4, by omega, ?_⟩⟩, Keep.setCells (F := Opt (some g)) (g := g) (.inl rfl) _ _ (Keep.refl w _), Fresh.refl _ _⟩
      have ed : xs.drop i = [] := List.drop_eq_nil_of_le (by omega)
      have et : xs.take i = xs := List.take_of_length_le (by omega)
      rw [q5, Nat.zero_add, htk, ed, et, Nat.mul_one]
      exact List.take_left' (by simp; omega)
  · by_cases hin : i < n
    · obtain ⟨g, cur, rfl, rfl, hg, hcs, htk⟩ := h.has (by omega)
      have hcell : ∀ j u, xs[j]? = some u → w.cell? ⟨g, 0 + j, none⟩ = some u := fun j u hj => by rw [Nat.zero_add]; exact h.cell rfl hj
      refine (Any2.slices_Insert_int_grow L g 0 n c i vb 0 1 1 xs [v] w hin (by omega) hle (by omega) (by omega) hlen rfl hcell hvs h1 h1v).mono ?_
      rintro e w' ⟨rfl, rfl⟩
      have hge := grownCap_ge w (n + 1) c (ρ.t 3)
      have hgm := grownCap_le_maxLen w (n + 1) c (ρ.t 3) (by simp only [maxLen]; omega)
      generalize grownCap w (n + 1) c (ρ.t 3) = gc at *
      generalize hrow : (xs.take i).toArray ++ Builtin.zeroCells (Value.int .i64 0).cells (n + 1 - i) ++ Builtin.zeroCells (Value.int .i64 0).cells (gc - (n + 1)) = row
      have hrl : row.size = gc := by
        rw [← hrow]; simp only [Array.size_append, List.size_toArray, size_zeroCells]
        have hz : (Value.int .i64 0).cells.size = 1 := rfl
        rw [hz]; simp; omega
      have hrt : row.toList.take i = xs.take i := by
        rw [← hrow]; simp only [Array.toList_append, List.append_assoc]; rw [List.take_left' (by simp; omega)]
      have hnew : (w.alloc (.cells row (ρ.t 3))).drew.heap[w.heap.size]? = some (.cells row (ρ.t 3) (0, 0)) := heap_alloc_new w _
      obtain ⟨c1, q1, q2, q3⟩ := heap_setCells [v] i (w := (w.alloc (.cells row (ρ.t 3))).drew) hnew (by simp; omega)
      obtain ⟨c2, q4, q5, q6⟩ := heap_setCells (xs.drop i) (i + 1) (w := ((w.alloc (.cells row (ρ.t 3))).drew.setCells w.heap.size i [v]).drew) q1 (by simp; omega)
      refine ⟨_, _, some w.heap.size, rfl, ⟨by simp; omega, hge, by simpa only [maxLen] using hgm, .inr ⟨_, c2, rfl, rfl, q4, by omega, ?_⟩⟩, ?_, fun b hb => .inr (by cases hb; exact Nat.le_refl _)⟩
      · rw [q5, q2, hrt]
        have hl2 : (xs.take i).length = i := by simp; omega
        simp only [Nat.mul_one, List.length_cons, List.length_nil, Nat.zero_add]
        generalize row.toList.drop (i + 1) = tl
        have e1 : (xs.take i ++ [v] ++ tl).take (i + 1) = xs.take i ++ [v] := List.take_left' (by simp; omega)
        rw [e1]
        generalize (xs.take i ++ [v] ++ tl).drop (i + 1 + (xs.drop i).length) = t2
        have e2 : xs.take i ++ [v] ++ xs.drop i ++ t2 = (xs.take i ++ v :: xs.drop i) ++ t2 := by simp
        rw [e2]
        exact List.take_left' (by simp; omega)
      · exact Keep.setCells (.inr (Nat.le_refl _)) _ _ (Keep.setCells (.inr (Nat.le_refl _)) _ _ ((Keep.refl w _).alloc _).drew).drew
    · have : i = n := by omega
      subst this
      refine (Any2.slices_Insert_int_end_grow L a i c vb 0 1 1 xs [v] w (by omega) hle (by omega) (by omega) hlen rfl (fun ha => by
        rcases Nat.eq_zero_or_pos i with h0 | h0
        · exact h0
        · obtain ⟨g, _, hga⟩ := h.nonnil h0; rw [ha] at hga; cases hga) (fun ad had j u hj => by
        have hp : 0 < i := by have := (List.getElem?_eq_some_iff.1 hj).1; omega
        obtain ⟨g, hgb, hga⟩ := h.nonnil hp
        rw [had] at hga; cases hga
        rw [Addr.add_lit, Nat.zero_add]; exact h.cell hgb hj) hvs h1v).mono ?_
      rintro e w' ⟨rfl, rfl⟩
      have hge := grownCap_ge w (i + 1) c (ρ.t 3)
      have hgm := grownCap_le_maxLen w (i + 1) c (ρ.t 3) (by simp only [maxLen]; omega)
      generalize grownCap w (i + 1) c (ρ.t 3) = gc at *
      generalize hrow : (xs ++ [v]).toArray ++ Builtin.zeroCells (Value.int .i64 0).cells (gc - (i + 1)) = row
      have hrl : row.size = gc := by
        rw [← hrow]; simp only [Array.size_append, List.size_toArray, size_zeroCells]
        have hz : (Value.int .i64 0).cells.size = 1 := rfl
        rw [hz]; simp; omega
      have := Sl.made w.drew (ρ.t 3) 1 (i + 1) gc row hge (by simpa only [maxLen] using hgm) (by omega)
      refine ⟨_, _, some w.heap.size, rfl, ?_, ((Keep.refl w _).drew).alloc _, fun b hb => .inr (by cases hb; exact Nat.le_refl _)⟩
      have e1 : row.toList.take ((i + 1) * 1) = xs.take i ++ v :: xs.drop i := by
        rw [← hrow]; simp only [Array.toList_append, Nat.mul_one]
        rw [List.take_left' (by simp; omega), List.take_of_length_le (l := xs) (by omega), List.drop_eq_nil_of_le (by omega)]
      rw [e1] at this
      exact this


end Go.Em

/- slices.Delete of one element, at slices that have a block of their own, over any program that bears the library's text. -/
namespace Go.Em
open Go.RowKit Go.Shelf Go.Proofs Go.Sort
variable {P : Program} {ρ : Ren}

theorem erase_take {α : Type} (l : List α) (i : Nat) (z : α) (h : i < l.length) : (l.take i ++ l.drop (i + 1) ++ [z]).take (l.length - 1) = l.eraseIdx i := by
  rw [List.take_left' (by simp; omega), List.eraseIdx_eq_take_drop_succ]

theorem erase_map {α β : Type} (f : α → β) (l : List α) (i : Nat) : (l.map f).eraseIdx i = (l.eraseIdx i).map f := by
  rw [List.eraseIdx_eq_take_drop_succ, List.eraseIdx_eq_take_drop_succ, List.map_append, List.map_take, List.map_drop]

theorem Sl.rewrite {w : World} {e : Nat} {a : Option Addr} {n c : Nat} {xs : List Value} {g : Nat} (h : Sl w e 1 a n c xs (some g)) (q : Nat) (ys : List Value) (hy : ys.length = n) (m : Nat) (hm : m ≤ n) :
    Sl ((w.drewN q).setCells g 0 ys) e 1 a m c (ys.take m) (some g) ∧ Keep w (Opt (some g)) ((w.drewN q).setCells g 0 ys) := by
  rcases h.at_ with ⟨h1, _⟩ | ⟨g', cur, h1, h2, h3, h4, h5⟩
  · cases h1
  · cases h1
    have hle := h.le
    obtain ⟨c2, q4, q5, q6⟩ := heap_setCells ys 0 (w := w.drewN q) h3 (by omega)
    refine ⟨⟨by rw [List.length_take]; omega, by omega, h.max, .inr ⟨g, c2, rfl, h2, q4, by omega, ?_⟩⟩, Keep.setCells (F := Opt (some g)) (g := g) (.inl rfl) _ _ ((Keep.refl w _).drewN q)⟩
    rw [q5, Nat.mul_one]
    simp only [List.take_zero, List.nil_append]
    exact List.take_append_of_le_length (by omega)

theorem delete_str (L : Lays2.n24 P ρ) {w : World} {e : Nat} {a : Option Addr} {n c : Nat} {l : List ByteArray} {b : Option Nat} (h : Sl w e 1 a n c (vstr l) b) {i : Nat} (hi : i < n) {p q : Int} (hp : p = (i : Int)) (hq : q = (i : Int) + 1) :
    Calls P (ρ.f 24) #[.slice a n c, .int .i64 p, .int .i64 q] w fun r w' => r = .returned (.slice a (n - 1) c) ∧ Sl w' e 1 a (n - 1) c (vstr (l.eraseIdx i)) b ∧ Keep w (Opt b) w' := by
  have hlen : l.length = n := by have := h.len; rw [vstr_length] at this; omega
  obtain ⟨g, hb, ha⟩ := h.nonnil (by omega)
  subst hb; subst ha
  have hq' : q = ((i + 1 : Nat) : Int) := by omega
  subst hp; subst hq'
  refine (Any.slices_Delete_string_cells L g 0 n c i (i + 1) (fun k => l.getD k ByteArray.empty) w h.le h.max (by omega) (by omega) (fun k hk => by
    rw [Nat.zero_add]
    refine h.cell rfl (vstr_get ?_)
    rw [List.getElem?_eq_getElem (by omega)]; simp [show k < l.length by omega]) (fun k _ => by rw [Nat.zero_add]; exact h.frozen rfl _)).mono ?_
  rintro r w' ⟨rfl, q, rfl⟩
  have e0 : (Lib.strsOf (fun k => l.getD k ByteArray.empty) n).map encStr = vstr l := by
    unfold Lib.strsOf vstr
    rw [List.map_map]
    refine List.ext_getElem (by simp [hlen]) fun k h1 h2 => ?_
    simp at h1 h2
    simp [h2]
  have e1 : (((Lib.strsOf (fun k => l.getD k ByteArray.empty) n).take i ++ (Lib.strsOf (fun k => l.getD k ByteArray.empty) n).drop (i + 1) ++ List.replicate (i + 1 - i) []).map encStr) = (vstr l).take i ++ (vstr l).drop (i + 1) ++ [.string ⟨#[]⟩] := by
    rw [List.map_append, List.map_append, List.map_take, List.map_drop, e0]
    simp
  have e2 := vstr_length l
  obtain ⟨s1, s2⟩ := h.rewrite q ((vstr l).take i ++ (vstr l).drop (i + 1) ++ [.string ⟨#[]⟩]) (by simp; omega) (n - 1) (by omega)
  rw [show n - 1 = (vstr l).length - 1 by omega, erase_take _ _ _ (by omega)] at s1
  rw [e1]
  refine ⟨by rw [Nat.add_sub_cancel_left], ?_, s2⟩
  have e3 : (vstr l).eraseIdx i = vstr (l.eraseIdx i) := by unfold vstr; rw [erase_map]
  rw [← e3, show n - 1 = (vstr l).length - 1 by omega]
  exact s1

theorem delete_int (L : Lays2.n23 P ρ) {w : World} {e : Nat} {a : Option Addr} {n c : Nat} {l : List Nat} {b : Option Nat} (h : Sl w e 1 a n c (vint l) b) {i : Nat} (hi : i < n) {p q : Int} (hp : p = (i : Int)) (hq : q = (i : Int) + 1) :
    Calls P (ρ.f 23) #[.slice a n c, .int .i64 p, .int .i64 q] w fun r w' => r = .returned (.slice a (n - 1) c) ∧ Sl w' e 1 a (n - 1) c (vint (l.eraseIdx i)) b ∧ Keep w (Opt b) w' := by
  have hlen : l.length = n := by have := h.len; rw [vint_length] at this; omega
  obtain ⟨g, hb, ha⟩ := h.nonnil (by omega)
  subst hb; subst ha
  have hq' : q = ((i + 1 : Nat) : Int) := by omega
  subst hp; subst hq'
  have hz : (l.map fun k : Nat => (k : Int)).length = n := by simp [hlen]
  refine (Any.slices_Delete_int_cells L g 0 n c i (i + 1) (l.map fun k : Nat => (k : Int)) w (by omega) h.le h.max (by omega) (by omega) (fun k hk => by
    rw [Nat.zero_add]
    rw [hz] at hk
    have hg : l[k]? = some l[k] := List.getElem?_eq_getElem (by omega)
    have := h.cell rfl (vint_get hg)
    rw [this]
    simp [show k < l.length by omega]) (fun k _ => by rw [Nat.zero_add]; exact h.frozen rfl _)).mono ?_
  rintro r w' ⟨rfl, q, rfl⟩
  have e0 : (l.map fun k : Nat => (k : Int)).map (Value.int .i64) = vint l := by unfold vint; rw [List.map_map]; rfl
  have e1 : ((((l.map fun k : Nat => (k : Int)).take n).take i ++ ((l.map fun k : Nat => (k : Int)).take n).drop (i + 1) ++ List.replicate (i + 1 - i) 0).map (Value.int .i64)) = (vint l).take i ++ (vint l).drop (i + 1) ++ [.int .i64 0] := by
    rw [List.take_of_length_le (i := n) (l := l.map fun k : Nat => (k : Int)) (by omega), List.map_append, List.map_append, List.map_take, List.map_drop, e0]
    simp
  have e2 := vint_length l
  obtain ⟨s1, s2⟩ := h.rewrite q ((vint l).take i ++ (vint l).drop (i + 1) ++ [.int .i64 0]) (by simp; omega) (n - 1) (by omega)
  rw [show n - 1 = (vint l).length - 1 by omega, erase_take _ _ _ (by omega)] at s1
  rw [e1]
  refine ⟨by rw [Nat.add_sub_cancel_left], ?_, s2⟩
  have e3 : (vint l).eraseIdx i = vint (l.eraseIdx i) := by unfold vint; rw [erase_map]
  rw [← e3, show n - 1 = (vint l).length - 1 by omega]
  exact s1

end Go.Em

namespace Go.Proofs
open Go.Shelf
def Tryz.l21_ren : Go.Shelf.Ren := ⟨fun | 21 => 102 | 27 => 130 | 28 => 131 | 35 => 154 | 39 => 162 | n => n, fun | 22 => 79 | 3 => 3 | 4 => 4 | 0 => 0 | n => n, fun | n => n⟩
theorem Tryz.l21 : Go.Proofs.Lays2.n21 Tryz.prog Tryz.l21_ren := {
  mixed := by kernel_rfl
  f21 := Tryz.func102.trans (congrArg some (by kernel_rfl))
  f27 := Tryz.func130.trans (congrArg some (by kernel_rfl))
  f28 := Tryz.func131.trans (congrArg some (by kernel_rfl))
  f35 := Tryz.func154.trans (congrArg some (by kernel_rfl))
  f39 := Tryz.func162.trans (congrArg some (by kernel_rfl))
  t0 := Tryz.underlying0
  a0 := Tryz.isAgg0
  z0 := Tryz.sizeOf0
  v0 := Tryz.zeroValue0
  t3 := Tryz.underlying3
  a3 := Tryz.isAgg3
  z3 := Tryz.sizeOf3
  v3 := Tryz.zeroValue3
  t4 := Tryz.underlying4
  a4 := Tryz.isAgg4
  z4 := Tryz.sizeOf4
  v4 := Tryz.zeroValue4
  t22 := Tryz.underlying79
  a22 := Tryz.isAgg79
  z22 := Tryz.sizeOf79
  v22 := Tryz.zeroValue79
  i3 := by kernel_rfl }
def Tryz.l22_ren : Go.Shelf.Ren := ⟨fun | 22 => 101 | 29 => 128 | 30 => 129 | 36 => 153 | 17 => 161 | n => n, fun | 24 => 22 | 9 => 9 | 3 => 3 | 4 => 4 | 0 => 0 | n => n, fun | n => n⟩
theorem Tryz.l22 : Go.Proofs.Lays2.n22 Tryz.prog Tryz.l22_ren := {
  mixed := by kernel_rfl
  f17 := Tryz.func161.trans (congrArg some (by kernel_rfl))
  f22 := Tryz.func101.trans (congrArg some (by kernel_rfl))
  f29 := Tryz.func128.trans (congrArg some (by kernel_rfl))
  f30 := Tryz.func129.trans (congrArg some (by kernel_rfl))
  f36 := Tryz.func153.trans (congrArg some (by kernel_rfl))
  t0 := Tryz.underlying0
  a0 := Tryz.isAgg0
  z0 := Tryz.sizeOf0
  v0 := Tryz.zeroValue0
  t3 := Tryz.underlying3
  a3 := Tryz.isAgg3
  z3 := Tryz.sizeOf3
  v3 := Tryz.zeroValue3
  t4 := Tryz.underlying4
  a4 := Tryz.isAgg4
  z4 := Tryz.sizeOf4
  v4 := Tryz.zeroValue4
  t9 := Tryz.underlying9
  a9 := Tryz.isAgg9
  z9 := Tryz.sizeOf9
  v9 := Tryz.zeroValue9
  t24 := Tryz.underlying22
  a24 := Tryz.isAgg22
  z24 := Tryz.sizeOf22
  v24 := Tryz.zeroValue22
  i9 := by kernel_rfl }
def Tryz.l23_ren : Go.Shelf.Ren := ⟨fun | 23 => 171 | n => n, fun | 22 => 79 | 3 => 3 | 4 => 4 | 0 => 0 | n => n, fun | n => n⟩
theorem Tryz.l23 : Go.Proofs.Lays2.n23 Tryz.prog Tryz.l23_ren := {
  mixed := by kernel_rfl
  f23 := Tryz.func171.trans (congrArg some (by kernel_rfl))
  t0 := Tryz.underlying0
  a0 := Tryz.isAgg0
  z0 := Tryz.sizeOf0
  v0 := Tryz.zeroValue0
  t3 := Tryz.underlying3
  a3 := Tryz.isAgg3
  z3 := Tryz.sizeOf3
  v3 := Tryz.zeroValue3
  t4 := Tryz.underlying4
  a4 := Tryz.isAgg4
  z4 := Tryz.sizeOf4
  v4 := Tryz.zeroValue4
  t22 := Tryz.underlying79
  a22 := Tryz.isAgg79
  z22 := Tryz.sizeOf79
  v22 := Tryz.zeroValue79
  i3 := by kernel_rfl }
def Tryz.l24_ren : Go.Shelf.Ren := ⟨fun | 24 => 166 | n => n, fun | 24 => 22 | 9 => 9 | 3 => 3 | 4 => 4 | 0 => 0 | n => n, fun | n => n⟩
theorem Tryz.l24 : Go.Proofs.Lays2.n24 Tryz.prog Tryz.l24_ren := {
  mixed := by kernel_rfl
  f24 := Tryz.func166.trans (congrArg some (by kernel_rfl))
  t0 := Tryz.underlying0
  a0 := Tryz.isAgg0
  z0 := Tryz.sizeOf0
  v0 := Tryz.zeroValue0
  t3 := Tryz.underlying3
  a3 := Tryz.isAgg3
  z3 := Tryz.sizeOf3
  v3 := Tryz.zeroValue3
  t4 := Tryz.underlying4
  a4 := Tryz.isAgg4
  z4 := Tryz.sizeOf4
  v4 := Tryz.zeroValue4
  t9 := Tryz.underlying9
  a9 := Tryz.isAgg9
  z9 := Tryz.sizeOf9
  v9 := Tryz.zeroValue9
  t24 := Tryz.underlying22
  a24 := Tryz.isAgg22
  z24 := Tryz.sizeOf22
  v24 := Tryz.zeroValue22
  i9 := by kernel_rfl }
def Tryz.l161_ren : Go.Shelf.Ren := ⟨fun | 161 => 36 | 231 => 59 | 227 => 60 | 233 => 61 | 235 => 62 | 228 => 91 | 197 => 92 | 151 => 93 | 260 => 123 | 152 => 124 | 137 => 149 | 119 => 150 | 224 => 151 | 225 => 152 | 217 => 160 | 266 => 165 | n => n, fun | 9 => 9 | 4 => 4 | 3 => 3 | 5 => 5 | 117 => 110 | 116 => 109 | 0 => 0 | 124 => 113 | 105 => 143 | 21 => 21 | 119 => 191 | 46 => 114 | 139 => 194 | 138 => 193 | n => n, fun | 3 => 1 | 4 => 2 | n => n⟩
theorem Tryz.l161 : Go.Proofs.Lays.n161 Tryz.prog Tryz.l161_ren := {
  mixed := by kernel_rfl
  f119 := Tryz.func150.trans (congrArg some (by kernel_rfl))
  f137 := Tryz.func149.trans (congrArg some (by kernel_rfl))
  f151 := Tryz.func93.trans (congrArg some (by kernel_rfl))
  f152 := Tryz.func124.trans (congrArg some (by kernel_rfl))
  f161 := Tryz.func36.trans (congrArg some (by kernel_rfl))
  f197 := Tryz.func92.trans (congrArg some (by kernel_rfl))
  f217 := Tryz.func160.trans (congrArg some (by kernel_rfl))
  f224 := Tryz.func151.trans (congrArg some (by kernel_rfl))
  f225 := Tryz.func152.trans (congrArg some (by kernel_rfl))
  f227 := Tryz.func60.trans (congrArg some (by kernel_rfl))
  f228 := Tryz.func91.trans (congrArg some (by kernel_rfl))
  f231 := Tryz.func59.trans (congrArg some (by kernel_rfl))
  f233 := Tryz.func61.trans (congrArg some (by kernel_rfl))
  f235 := Tryz.func62.trans (congrArg some (by kernel_rfl))
  f260 := Tryz.func123.trans (congrArg some (by kernel_rfl))
  f266 := Tryz.func165.trans (congrArg some (by kernel_rfl))
  t0 := Tryz.underlying0
  a0 := Tryz.isAgg0
  z0 := Tryz.sizeOf0
  v0 := Tryz.zeroValue0
  t3 := Tryz.underlying3
  a3 := Tryz.isAgg3
  z3 := Tryz.sizeOf3
  v3 := Tryz.zeroValue3
  t4 := Tryz.underlying4
  a4 := Tryz.isAgg4
  z4 := Tryz.sizeOf4
  v4 := Tryz.zeroValue4
  t5 := Tryz.underlying5
  a5 := Tryz.isAgg5
  z5 := Tryz.sizeOf5
  v5 := Tryz.zeroValue5
  t9 := Tryz.underlying9
  a9 := Tryz.isAgg9
  z9 := Tryz.sizeOf9
  v9 := Tryz.zeroValue9
  t21 := Tryz.underlying21
  a21 := Tryz.isAgg21
  z21 := Tryz.sizeOf21
  v21 := Tryz.zeroValue21
  t46 := Tryz.underlying114
  a46 := Tryz.isAgg114
  z46 := Tryz.sizeOf114
  v46 := Tryz.zeroValue114
  t105 := Tryz.underlying143
  a105 := Tryz.isAgg143
  z105 := Tryz.sizeOf143
  v105 := Tryz.zeroValue143
  t116 := Tryz.underlying109
  a116 := Tryz.isAgg109
  z116 := Tryz.sizeOf109
  t117 := Tryz.underlying110
  a117 := Tryz.isAgg110
  z117 := Tryz.sizeOf110
  v117 := Tryz.zeroValue110
  t119 := Tryz.underlying191
  a119 := Tryz.isAgg191
  z119 := Tryz.sizeOf191
  t124 := Tryz.underlying113
  a124 := Tryz.isAgg113
  z124 := Tryz.sizeOf113
  v124 := Tryz.zeroValue113
  t138 := Tryz.underlying193
  a138 := Tryz.isAgg193
  z138 := Tryz.sizeOf193
  v138 := Tryz.zeroValue193
  t139 := Tryz.underlying194
  a139 := Tryz.isAgg194
  z139 := Tryz.sizeOf194
  v139 := Tryz.zeroValue194
  g3 := by kernel_rfl
  g4 := by kernel_rfl }
def Tryz.l162_ren : Go.Shelf.Ren := ⟨fun | 162 => 37 | 232 => 63 | 227 => 60 | 234 => 64 | 236 => 65 | 228 => 91 | 271 => 94 | 151 => 93 | 120 => 125 | 197 => 92 | 152 => 124 | 260 => 123 | 137 => 149 | 119 => 150 | 224 => 151 | 225 => 152 | 217 => 160 | 266 => 165 | n => n, fun | 9 => 9 | 4 => 4 | 3 => 3 | 5 => 5 | 117 => 110 | 116 => 109 | 0 => 0 | 124 => 113 | 21 => 21 | 105 => 143 | 46 => 114 | 119 => 191 | 139 => 194 | 138 => 193 | n => n, fun | 3 => 1 | 4 => 2 | n => n⟩
theorem Tryz.l162 : Go.Proofs.Lays.n162 Tryz.prog Tryz.l162_ren := {
  mixed := by kernel_rfl
  f119 := Tryz.func150.trans (congrArg some (by kernel_rfl))
  f120 := Tryz.func125.trans (congrArg some (by kernel_rfl))
  f137 := Tryz.func149.trans (congrArg some (by kernel_rfl))
  f151 := Tryz.func93.trans (congrArg some (by kernel_rfl))
  f152 := Tryz.func124.trans (congrArg some (by kernel_rfl))
  f162 := Tryz.func37.trans (congrArg some (by kernel_rfl))
  f197 := Tryz.func92.trans (congrArg some (by kernel_rfl))
  f217 := Tryz.func160.trans (congrArg some (by kernel_rfl))
  f224 := Tryz.func151.trans (congrArg some (by kernel_rfl))
  f225 := Tryz.func152.trans (congrArg some (by kernel_rfl))
  f227 := Tryz.func60.trans (congrArg some (by kernel_rfl))
  f228 := Tryz.func91.trans (congrArg some (by kernel_rfl))
  f232 := Tryz.func63.trans (congrArg some (by kernel_rfl))
  f234 := Tryz.func64.trans (congrArg some (by kernel_rfl))
  f236 := Tryz.func65.trans (congrArg some (by kernel_rfl))
  f260 := Tryz.func123.trans (congrArg some (by kernel_rfl))
  f266 := Tryz.func165.trans (congrArg some (by kernel_rfl))
  f271 := Tryz.func94.trans (congrArg some (by kernel_rfl))
  t0 := Tryz.underlying0
  a0 := Tryz.isAgg0
  z0 := Tryz.sizeOf0
  v0 := Tryz.zeroValue0
  t3 := Tryz.underlying3
  a3 := Tryz.isAgg3
  z3 := Tryz.sizeOf3
  v3 := Tryz.zeroValue3
  t4 := Tryz.underlying4
  a4 := Tryz.isAgg4
  z4 := Tryz.sizeOf4
  v4 := Tryz.zeroValue4
  t5 := Tryz.underlying5
  a5 := Tryz.isAgg5
  z5 := Tryz.sizeOf5
  v5 := Tryz.zeroValue5
  t9 := Tryz.underlying9
  a9 := Tryz.isAgg9
  z9 := Tryz.sizeOf9
  v9 := Tryz.zeroValue9
  t21 := Tryz.underlying21
  a21 := Tryz.isAgg21
  z21 := Tryz.sizeOf21
  v21 := Tryz.zeroValue21
  t46 := Tryz.underlying114
  a46 := Tryz.isAgg114
  z46 := Tryz.sizeOf114
  v46 := Tryz.zeroValue114
  t105 := Tryz.underlying143
  a105 := Tryz.isAgg143
  z105 := Tryz.sizeOf143
  v105 := Tryz.zeroValue143
  t116 := Tryz.underlying109
  a116 := Tryz.isAgg109
  z116 := Tryz.sizeOf109
  t117 := Tryz.underlying110
  a117 := Tryz.isAgg110
  z117 := Tryz.sizeOf110
  v117 := Tryz.zeroValue110
  t119 := Tryz.underlying191
  a119 := Tryz.isAgg191
  z119 := Tryz.sizeOf191
  t124 := Tryz.underlying113
  a124 := Tryz.isAgg113
  z124 := Tryz.sizeOf113
  v124 := Tryz.zeroValue113
  t138 := Tryz.underlying193
  a138 := Tryz.isAgg193
  z138 := Tryz.sizeOf193
  v138 := Tryz.zeroValue193
  t139 := Tryz.underlying194
  a139 := Tryz.isAgg194
  z139 := Tryz.sizeOf194
  v139 := Tryz.zeroValue194
  g3 := by kernel_rfl
  g4 := by kernel_rfl }
def Tryz.lgrow_ren : Go.Shelf.Ren := ⟨fun | 4 => 146 | n => n, fun | 22 => 22 | 25 => 9 | 3 => 3 | 4 => 4 | 9 => 9 | 20 => 20 | 0 => 0 | n => n, fun | n => n⟩
theorem Tryz.lgrow : Go.Proofs.Lays8.n4 Tryz.prog Tryz.lgrow_ren := {
  mixed := by kernel_rfl
  f4 := ⟨Tryz.f146.name, by decide, Tryz.func146.trans (congrArg some (by kernel_rfl))⟩
  t0 := Tryz.underlying0
  a0 := Tryz.isAgg0
  z0 := Tryz.sizeOf0
  v0 := Tryz.zeroValue0
  t3 := Tryz.underlying3
  a3 := Tryz.isAgg3
  z3 := Tryz.sizeOf3
  v3 := Tryz.zeroValue3
  t4 := Tryz.underlying4
  a4 := Tryz.isAgg4
  z4 := Tryz.sizeOf4
  v4 := Tryz.zeroValue4
  t9 := Tryz.underlying9
  a9 := Tryz.isAgg9
  z9 := Tryz.sizeOf9
  v9 := Tryz.zeroValue9
  t20 := Tryz.underlying20
  a20 := Tryz.isAgg20
  z20 := Tryz.sizeOf20
  v20 := Tryz.zeroValue20
  t22 := Tryz.underlying22
  a22 := Tryz.isAgg22
  z22 := Tryz.sizeOf22
  v22 := Tryz.zeroValue22 }
def Tryz.lays105_ren : Go.Shelf.Ren := ⟨fun | 105 => 38 | 212 => 66 | 99 => 67 | 165 => 68 | 166 => 69 | 170 => 70 | 169 => 71 | 263 => 95 | 264 => 96 | 206 => 97 | 240 => 98 | 241 => 99 | 276 => 126 | 277 => 127 | n => n, fun | 9 => 9 | 3 => 3 | 4 => 4 | 20 => 20 | 0 => 0 | 46 => 114 | 109 => 115 | 5 => 5 | 72 => 121 | 76 => 124 | 51 => 146 | 146 => 147 | 53 => 149 | 148 => 150 | 70 => 118 | 37 => 119 | 75 => 123 | 127 => 152 | 164 => 170 | 80 => 126 | n => n, fun | n => n⟩
theorem Tryz.lays105 : Go.Proofs.Lays.n105 Tryz.prog Tryz.lays105_ren := {
  mixed := by kernel_rfl
  f99 := Tryz.func67.trans (congrArg some (by kernel_rfl))
  f105 := Tryz.func38.trans (congrArg some (by kernel_rfl))
  f165 := Tryz.func68.trans (congrArg some (by kernel_rfl))
  f166 := Tryz.func69.trans (congrArg some (by kernel_rfl))
  f169 := Tryz.func71.trans (congrArg some (by kernel_rfl))
  f170 := Tryz.func70.trans (congrArg some (by kernel_rfl))
  f206 := Tryz.func97.trans (congrArg some (by kernel_rfl))
  f212 := Tryz.func66.trans (congrArg some (by kernel_rfl))
  f240 := Tryz.func98.trans (congrArg some (by kernel_rfl))
  f241 := Tryz.func99.trans (congrArg some (by kernel_rfl))
  f263 := Tryz.func95.trans (congrArg some (by kernel_rfl))
  f264 := Tryz.func96.trans (congrArg some (by kernel_rfl))
  f276 := Tryz.func126.trans (congrArg some (by kernel_rfl))
  f277 := Tryz.func127.trans (congrArg some (by kernel_rfl))
  t0 := Tryz.underlying0
  a0 := Tryz.isAgg0
  z0 := Tryz.sizeOf0
  v0 := Tryz.zeroValue0
  t3 := Tryz.underlying3
  a3 := Tryz.isAgg3
  z3 := Tryz.sizeOf3
  v3 := Tryz.zeroValue3
  t4 := Tryz.underlying4
  a4 := Tryz.isAgg4
  z4 := Tryz.sizeOf4
  v4 := Tryz.zeroValue4
  t5 := Tryz.underlying5
  a5 := Tryz.isAgg5
  z5 := Tryz.sizeOf5
  v5 := Tryz.zeroValue5
  t9 := Tryz.underlying9
  a9 := Tryz.isAgg9
  z9 := Tryz.sizeOf9
  v9 := Tryz.zeroValue9
  t20 := Tryz.underlying20
  a20 := Tryz.isAgg20
  z20 := Tryz.sizeOf20
  v20 := Tryz.zeroValue20
  t37 := Tryz.underlying119
  a37 := Tryz.isAgg119
  z37 := Tryz.sizeOf119
  v37 := Tryz.zeroValue119
  t46 := Tryz.underlying114
  a46 := Tryz.isAgg114
  z46 := Tryz.sizeOf114
  v46 := Tryz.zeroValue114
  t51 := Tryz.underlying146
  a51 := Tryz.isAgg146
  z51 := Tryz.sizeOf146
  v51 := Tryz.zeroValue146
  t53 := Tryz.underlying149
  a53 := Tryz.isAgg149
  z53 := Tryz.sizeOf149
  v53 := Tryz.zeroValue149
  t70 := Tryz.underlying118
  a70 := Tryz.isAgg118
  z70 := Tryz.sizeOf118
  v70 := Tryz.zeroValue118
  t72 := Tryz.underlying121
  a72 := Tryz.isAgg121
  z72 := Tryz.sizeOf121
  v72 := Tryz.zeroValue121
  t75 := Tryz.underlying123
  a75 := Tryz.isAgg123
  z75 := Tryz.sizeOf123
  v75 := Tryz.zeroValue123
  t76 := Tryz.underlying124
  a76 := Tryz.isAgg124
  z76 := Tryz.sizeOf124
  v76 := Tryz.zeroValue124
  t109 := Tryz.underlying115
  a109 := Tryz.isAgg115
  z109 := Tryz.sizeOf115
  v109 := Tryz.zeroValue115
  t127 := Tryz.underlying152
  a127 := Tryz.isAgg152
  z127 := Tryz.sizeOf152
  v127 := Tryz.zeroValue152
  t146 := Tryz.underlying147
  a146 := Tryz.isAgg147
  z146 := Tryz.sizeOf147
  v146 := Tryz.zeroValue147
  t148 := Tryz.underlying150
  a148 := Tryz.isAgg150
  z148 := Tryz.sizeOf150
  v148 := Tryz.zeroValue150
  t164 := Tryz.underlying170
  a164 := Tryz.isAgg170
  z164 := Tryz.sizeOf170
  v164 := Tryz.zeroValue170 }
theorem Tryz.Builder_Extra_105 : Builder.Extra Tryz.prog Tryz.lays105_ren := {
  sizeBuilder := by kernel_rfl
  liesBuilder := by kernel_rfl
  t5 := Tryz.underlying5
  a5 := Tryz.isAgg5
  z5 := Tryz.sizeOf5
  v5 := Tryz.zeroValue5
  infoByte := by kernel_rfl
  cellsByte := by kernel_rfl
  sizeByte := by kernel_rfl
  neB5 := by decide }
open Go.RowKit Go.Lib in
theorem Tryz.strings_Repeat (s : ByteArray) (c : Nat) (w : World) (hc : c ≤ 9223372036854775807) (hlen : s.size * c ≤ 140737488355328) :
    Calls Tryz.prog 38 #[.string s, .int .i64 c] w fun e w' => e = .returned (.string ⟨(Lib.repeatL s.data.toList c).toArray⟩) ∧ Below w.heap.size w w' := Any.strings_Repeat Tryz.lays105 Tryz.Builder_Extra_105 s c w hc hlen
def Tryz.lays103_ren : Go.Shelf.Ren := ⟨fun | 103 => 72 | 210 => 100 | 206 => 97 | n => n, fun | 9 => 9 | 4 => 4 | 24 => 48 | 3 => 3 | n => n, fun | n => n⟩
theorem Tryz.lays103 : Go.Proofs.Lays.n103 Tryz.prog Tryz.lays103_ren := {
  mixed := by kernel_rfl
  f103 := Tryz.func72.trans (congrArg some (by kernel_rfl))
  f206 := Tryz.func97.trans (congrArg some (by kernel_rfl))
  f210 := Tryz.func100.trans (congrArg some (by kernel_rfl))
  t3 := Tryz.underlying3
  a3 := Tryz.isAgg3
  z3 := Tryz.sizeOf3
  v3 := Tryz.zeroValue3
  t4 := Tryz.underlying4
  a4 := Tryz.isAgg4
  z4 := Tryz.sizeOf4
  v4 := Tryz.zeroValue4
  t9 := Tryz.underlying9
  a9 := Tryz.isAgg9
  z9 := Tryz.sizeOf9
  v9 := Tryz.zeroValue9
  t24 := Tryz.underlying48
  a24 := Tryz.isAgg48
  z24 := Tryz.sizeOf48
  v24 := Tryz.zeroValue48 }
open Go.RowKit in
theorem Tryz.strings_CutPrefix (s p : ByteArray) (w : World) :
    Calls Tryz.prog 72 #[.string s, .string p] w fun e w' => e = .returned (.tuple #[.string ⟨(Lib.trimPrefix s.data.toList p.data.toList).toArray⟩, .bool (Lib.hasPrefix s.data.toList p.data.toList)]) ∧ w' = w := Any.strings_CutPrefix Tryz.lays103 s p w
end Go.Proofs

namespace Go.Proofs
open Go.Shelf Go.Em

theorem ins_str {w : World} {a : Option Addr} {n c : Nat} {xs : List Value} {b : Option Nat} (h : Sl w 9 1 a n c xs b) (h1 : ∀ v ∈ xs, v.oneCell' = true) {i : Nat} (hi : i ≤ n) (hn : n < 1048576)
    {vb t : Nat} {v : Value} (hv : v.oneCell' = true) (hvb : w.heap[vb]? = some (.cells #[v] t (0, 0))) (hne : b ≠ some vb) {p : Int} (hp : p = (i : Int)) :
    Calls Tryz.prog 101 #[.slice a n c, .int .i64 p, .slice (some ⟨vb, 0, none⟩) 1 1] w fun e w' => ∃ a' c' b', e = .returned (.slice a' (n + 1) c') ∧ Sl w' 9 1 a' (n + 1) c' (xs.take i ++ v :: xs.drop i) b' ∧ Keep w (Opt b) w' ∧ Fresh w (Opt b) (Opt b') := by
  subst hp
  exact insert_str Tryz.l22 h h1 hi hn hv hvb hne

theorem ins_int {w : World} {a : Option Addr} {n c : Nat} {xs : List Value} {b : Option Nat} (h : Sl w 3 1 a n c xs b) (h1 : ∀ v ∈ xs, v.oneCell' = true) {i : Nat} (hi : i ≤ n) (hn : n < 1048576)
    {vb t : Nat} {v : Value} (hv : v.oneCell' = true) (hvb : w.heap[vb]? = some (.cells #[v] t (0, 0))) (hne : b ≠ some vb) {p : Int} (hp : p = (i : Int)) :
    Calls Tryz.prog 102 #[.slice a n c, .int .i64 p, .slice (some ⟨vb, 0, none⟩) 1 1] w fun e w' => ∃ a' c' b', e = .returned (.slice a' (n + 1) c') ∧ Sl w' 3 1 a' (n + 1) c' (xs.take i ++ v :: xs.drop i) b' ∧ Keep w (Opt b) w' ∧ Fresh w (Opt b) (Opt b') := by
  subst hp
  exact insert_int Tryz.l21 h h1 hi hn hv hvb hne

theorem del_str {w : World} {e : Nat} {a : Option Addr} {n c : Nat} {l : List ByteArray} {b : Option Nat} (h : Sl w e 1 a n c (vstr l) b) {i : Nat} (hi : i < n) {p q : Int} (hp : p = (i : Int)) (hq : q = (i : Int) + 1) :
    Calls Tryz.prog 166 #[.slice a n c, .int .i64 p, .int .i64 q] w fun r w' => r = .returned (.slice a (n - 1) c) ∧ Sl w' e 1 a (n - 1) c (vstr (l.eraseIdx i)) b ∧ Keep w (Opt b) w' :=
  delete_str Tryz.l24 h hi hp hq

theorem del_int {w : World} {e : Nat} {a : Option Addr} {n c : Nat} {l : List Nat} {b : Option Nat} (h : Sl w e 1 a n c (vint l) b) {i : Nat} (hi : i < n) {p q : Int} (hp : p = (i : Int)) (hq : q = (i : Int) + 1) :
    Calls Tryz.prog 171 #[.slice a n c, .int .i64 p, .int .i64 q] w fun r w' => r = .returned (.slice a (n - 1) c) ∧ Sl w' e 1 a (n - 1) c (vint (l.eraseIdx i)) b ∧ Keep w (Opt b) w' :=
  delete_int Tryz.l23 h hi hp hq

end Go.Proofs

/- A node's lines, or its kids, are other ones. -/
namespace Go.Proofs
open Go.RowKit Go.Em

theorem tm_cover {w W : World} {tb : Nat} {R : TR} {F : Blocks} (hRF : ∀ b, R.F tb b → F b) {k : Nat} {r : RN} (hr : R.rs[k]? = some r) (r' : RN) (hl : ∀ g, r'.lb = some g → r.lb = some g ∨ w.heap.size ≤ g) (hk : ∀ g, r'.kb = some g → r.kb = some g ∨ w.heap.size ≤ g) :
    ∀ b, TR.F { R with rs := R.rs.set k r' } tb b → F b ∨ w.heap.size ≤ b := by
  intro b hb
  rcases hb with e | e | e | ⟨j, q, hj, e⟩
  · exact .inl (hRF b (.inl e))
  · exact .inl (hRF b (.inr (.inl e)))
  · exact .inl (hRF b (.inr (.inr (.inl e))))
  · by_cases hjk : j = k
    · subst hjk
      simp only at hj
      rw [List.getElem?_set_self (List.getElem?_eq_some_iff.1 hr).1] at hj
      cases hj
      rcases e with e | e
      · exact (hl b e).imp (fun h => hRF b (.inr (.inr (.inr ⟨j, r, hr, .inl h⟩)))) id
      · exact (hk b e).imp (fun h => hRF b (.inr (.inr (.inr ⟨j, r, hr, .inr h⟩)))) id
    · simp only at hj
      rw [List.getElem?_set_ne (Ne.symm hjk)] at hj
      exact .inl (hRF b (.inr (.inr (.inr ⟨j, q, hj, e⟩))))

theorem TMem.setLines {w W : World} {tb : Nat} {S : TS} {F : Blocks} {R : TR} (hG : TMem w tb S F) (hm : TM w tb S R) (hRF : ∀ b, R.F tb b → F b) {k nb : Nat} {x : ND} {r : RN} (hx : S.nodes[k]? = some x) (hr : R.rs[k]? = some r) (hnb : R.nb = some nb)
    {a : Option Addr} {c : Nat} {b : Option Nat} (lines : List ByteArray) (hs : Sl W 9 1 a lines.length c (vstr lines) b) (hk : Keep w (Opt r.lb) W) (hf : Fresh w (Opt r.lb) (Opt b)) :
    TPost w F (W.setCell ⟨nb, k * 3, none⟩ (.slice a lines.length c)) tb (S.setNode k ⟨lines, x.kids, x.count⟩) := by
  have hsl := hm.lines hr hx
  have hsk := hm.kids hr hx
  have hnl := hm.nodes.lt hnb
  have hbn : ∀ g, b = some g → g ≠ nb := fun g hg e => by
    rcases hf g hg with h | h
    · exact hsl.types hm.nodes (by decide) h (e ▸ hnb)
    · omega
  have hkk : Keep w (fun b => R.nb = some b ∨ r.lb = some b ∨ r.kb = some b) (W.setCell ⟨nb, k * 3, none⟩ (.slice a lines.length c)) := (hk.mono fun b hb => .inr (.inl hb)).setCell (a := ⟨nb, k * 3, none⟩) (.inl (.inl hnb)) _
  have hn : Sl (W.setCell ⟨nb, k * 3, none⟩ (.slice a lines.length c)) 83 3 R.na S.nodes.length R.nc (flat (R.rs.set k ⟨a, c, b, r.ka, r.kc, r.kb⟩) (S.nodes.set k ⟨lines, x.kids, x.count⟩)) R.nb := by
    rw [flat_put0 hr hx]
    exact (hm.nodes.keep hk fun g hg e => hsl.types hm.nodes (by decide) e hg).put hnb _ _
  have m := hm.replace hr hx ⟨a, c, b, r.ka, r.kc, r.kb⟩ ⟨lines, x.kids, x.count⟩ hn (hs.move fun g hg => Below.heap_setCell W ⟨nb, k * 3, none⟩ _ g (hbn g hg))
    (hsk.keep ((hk.mono (G := fun b => R.nb = some b ∨ r.lb = some b) fun b hb => .inr hb).setCell (a := ⟨nb, k * 3, none⟩) (.inl (.inl hnb)) _) fun g hg e => by
      rcases e with e | e
      · exact hsk.types hm.nodes (by decide) hg e
      · exact hsk.types hsl (by decide) hg e)
    (fun g hg => by
      rcases hf g hg with h | h
      · exact .inl h
      · exact .inr fun hh => by have := hm.lt hh; omega)
    (fun g hg => .inl hg) hkk
  exact TPost.of hG m (hkk.mono fun b hb => by
    rcases hb with e | e | e
    · exact hRF b (.inr (.inl e))
    · exact hRF b (.inr (.inr (.inr ⟨k, r, hr, .inl e⟩)))
    · exact hRF b (.inr (.inr (.inr ⟨k, r, hr, .inr e⟩)))) (tm_cover (W := W) hRF hr _ (fun g hg => hf g hg) (fun g hg => .inl hg))

theorem TMem.setKids {w W : World} {tb : Nat} {S : TS} {F : Blocks} {R : TR} (hG : TMem w tb S F) (hm : TM w tb S R) (hRF : ∀ b, R.F tb b → F b) {k nb : Nat} {x : ND} {r : RN} (hx : S.nodes[k]? = some x) (hr : R.rs[k]? = some r) (hnb : R.nb = some nb)
    {a : Option Addr} {c : Nat} {b : Option Nat} (kids : List Nat) (hs : Sl W 3 1 a kids.length c (vint kids) b) (hk : Keep w (Opt r.kb) W) (hf : Fresh w (Opt r.kb) (Opt b)) :
    TPost w F (W.setCell ⟨nb, k * 3 + 1, none⟩ (.slice a kids.length c)) tb (S.setNode k ⟨x.lines, kids, x.count⟩) := by
  have hsl := hm.lines hr hx
  have hsk := hm.kids hr hx
  have hnl := hm.nodes.lt hnb
  have hbn : ∀ g, b = some g → g ≠ nb := fun g hg e => by
    rcases hf g hg with h | h
    · exact hsk.types hm.nodes (by decide) h (e ▸ hnb)
    · omega
  have hkk : Keep w (fun b => R.nb = some b ∨ r.lb = some b ∨ r.kb = some b) (W.setCell ⟨nb, k * 3 + 1, none⟩ (.slice a kids.length c)) := (hk.mono fun b hb => .inr (.inr hb)).setCell (a := ⟨nb, k * 3 + 1, none⟩) (.inl (.inl hnb)) _
  have hn : Sl (W.setCell ⟨nb, k * 3 + 1, none⟩ (.slice a kids.length c)) 83 3 R.na S.nodes.length R.nc (flat (R.rs.set k ⟨r.la, r.lc, r.lb, a, c, b⟩) (S.nodes.set k ⟨x.lines, kids, x.count⟩)) R.nb := by
    rw [flat_put1 hr hx]
    exact (hm.nodes.keep hk fun g hg e => hsk.types hm.nodes (by decide) e hg).put hnb _ _
  have m := hm.replace hr hx ⟨r.la, r.lc, r.lb, a, c, b⟩ ⟨x.lines, kids, x.count⟩ hn
    (hsl.keep ((hk.mono (G := fun b => R.nb = some b ∨ r.kb = some b) fun b hb => .inr hb).setCell (a := ⟨nb, k * 3 + 1, none⟩) (.inl (.inl hnb)) _) fun g hg e => by
      rcases e with e | e
      · exact hsl.types hm.nodes (by decide) hg e
      · exact hsl.types hsk (by decide) hg e)
    (hs.move fun g hg => Below.heap_setCell W ⟨nb, k * 3 + 1, none⟩ _ g (hbn g hg))
    (fun g hg => .inl hg)
    (fun g hg => by
      rcases hf g hg with h | h
      · exact .inl h
      · exact .inr fun hh => by have := hm.lt hh; omega) hkk
  exact TPost.of hG m (hkk.mono fun b hb => by
    rcases hb with e | e | e
    · exact hRF b (.inr (.inl e))
    · exact hRF b (.inr (.inr (.inr ⟨k, r, hr, .inl e⟩)))
    · exact hRF b (.inr (.inr (.inr ⟨k, r, hr, .inr e⟩)))) (tm_cover (W := W) hRF hr _ (fun g hg => .inl hg) (fun g hg => hf g hg))

theorem insert_split {α : Type} (l : List α) (i : Nat) (x : α) (h : i ≤ l.length) : l.insertIdx i x = l.take i ++ x :: l.drop i := by
  induction l generalizing i with
  | nil => simp at h; subst h; rfl
  | cons y ys ih =>
    cases i with
    | zero => rfl
    | succ i => simp [ih i (by simpa using h)]

theorem insert_inv {f : Nat} {S S' : TS} {k i : Nat} {line : ByteArray} {o : Option Nat} (h : TS.insert (f + 1) S k i line = some (o, S')) :
    ∃ x S1 S2, S.nodes[k]? = some x ∧ S1.sum k = some S2 ∧ S2.split k = some (o, S') ∧
      ((x.kids = [] ∧ i ≤ x.lines.length ∧ x.lines.length < 1048576 ∧ S1 = S.setNode k ⟨x.lines.insertIdx i line, x.kids, x.count⟩) ∨
       (x.kids ≠ [] ∧ ∃ n j kid o1 Sa, S.find k i = some (n, j) ∧ x.kids[n]? = some kid ∧ TS.insert f S kid j line = some (o1, Sa) ∧ j ≤ i ∧
         ((o1 = none ∧ S1 = Sa) ∨ ∃ other x', o1 = some other ∧ Sa.nodes[k]? = some x' ∧ n + 1 ≤ x'.kids.length ∧ x'.kids.length < 1048576 ∧ S1 = Sa.setNode k ⟨x'.lines, x'.kids.insertIdx (n + 1) other, x'.count⟩))) := by
  unfold TS.insert at h
  split at h
  · cases h
  rename_i x hx
  dsimp only at h
  split at h
  · cases h
  rename_i S1 hS1
  split at h
  · cases h
  rename_i S2 hS2
  refine ⟨x, S1, S2, hx, hS2, h, ?_⟩
  split at hS1
  · rename_i hk
    split at hS1
    · rename_i hc
      exact .inl ⟨hk, hc.1, hc.2, (Option.some.inj hS1).symm⟩
    · cases hS1
  · rename_i hk
    right
    refine ⟨hk, ?_⟩
    split at hS1
    · cases hS1
    rename_i n j hf
    split at hS1
    · cases hS1
    rename_i kid hkid
    have hfind : S.find k i = some (n, j) := by unfold TS.find; rw [hx]; exact hf
    split at hS1
    · cases hS1
    · rename_i Sa hin
      exact ⟨n, j, kid, none, Sa, hfind, hkid, hin, findGo_le hf, .inl ⟨rfl, (Option.some.inj hS1).symm⟩⟩
    · rename_i other Sa hin
      split at hS1
      · cases hS1
      rename_i x' hx'
      split at hS1
      · rename_i hc
        exact ⟨n, j, kid, some other, Sa, hfind, hkid, hin, findGo_le hf, .inr ⟨other, x', rfl, hx', hc.1, hc.2, (Option.some.inj hS1).symm⟩⟩
      · cases hS1

end Go.Proofs

/- The walk of the tree's insert. -/
namespace Go.Proofs
open Go.RowKit Go.Em

set_option maxRecDepth 100000 in
set_option maxHeartbeats 2000000 in
theorem insert_calls : ∀ (f : Nat) {w : World} {tb : Nat} {S S' : TS} {F : Blocks} (_ : TMem w tb S F) {k i : Nat} {line : ByteArray} {o : Option Nat} (_ : TS.insert f S k i line = some (o, S')) (_ : i < 1048576),
    Calls Tryz.prog 74 #[.pointer (some ⟨tb, 0, none⟩), .int .i64 (k : Int), .int .i64 (i : Int), .string line] w fun e w' => e = .returned (.int .i64 (optInt o)) ∧ TPost w F w' tb S'
  | 0, w, tb, S, S', F, h, k, i, line, o, hs, hi => by simp [TS.insert] at hs
  | f + 1, w, tb, S, S', F, h, k, i, line, o, hs, hi => by
    have IH : Kp _ := ⟨@insert_calls f⟩
    have HG : Kp _ := ⟨h⟩
    obtain ⟨x, S1, S2, hx, hs1, hs2, hc⟩ := insert_inv hs
    obtain ⟨⟨R, hm, hRF⟩, hFlt⟩ := h
    obtain ⟨nb, r, hnb, hna, hr, hk, hle, hmax, c0, c1, c2⟩ := hm.node hx
    have h0 := hm.cell0
    rw [hna] at h0
    have htb : tb < w.heap.size := hm.lt (.inl rfl)
    have hnbl : nb < w.heap.size := hm.nodes.lt hnb
    have htn : nb ≠ tb := fun e => hm.nodes.ne_blk hm.hd (by decide) (e ▸ hnb)
    have HM : Kp _ := ⟨hm⟩
    have HRF : Kp _ := ⟨hRF⟩
    have HX : Kp _ := ⟨hx⟩
    have HR : Kp _ := ⟨hr⟩
    have HNB : Kp _ := ⟨hnb⟩
    have HS1 : Kp _ := ⟨hs1⟩
    have HS2 : Kp _ := ⟨hs2⟩
    clear hm hRF hFlt hr hnb hna hs hs1 hs2 hx
    rcases hc with ⟨hk0, hil, hll, rfl⟩ | ⟨hk0, n, j, kid, o1, Sa, hfd, hkid, hin, hji, hd⟩
    · have hk1 : x.kids.length = 0 := by rw [hk0]; rfl
      have hsl := HM.out.lines HR.out HX.out
      have hlm := hsl.max
      have hlc := hsl.le
      have HSL : Kp _ := ⟨hsl⟩
      clear hk0 hsl
      go_enter Tryz.func74, Tryz.ntmps74
      go_wp2_with ((with_reducible refine (leaf_calls _ _ _ _ _ _ c1).mono ?_)
                   rintro e w' ⟨rfl, rfl⟩)
      refine wp_region_plan (fun W => W.cell? ⟨tb, 0, none⟩ = some (.slice (some ⟨nb, 0, none⟩) S.nodes.length R.nc) ∧ W.cell? ⟨nb, k * 3, none⟩ = some (.slice r.la x.lines.length r.lc))
        [(true, 0), (true, 1), (true, 2), (true, 3), (true, 4), (true, 5), (true, 6), (true, 7), (true, 8), (true, 9), (true, 10), (true, 11), (true, 12), (true, 13), (true, 14), (false, 15), (false, 16)] 17 (by kernel_rfl) (by kernel_rfl) (fun _ _ d _ _ h => by cases d <;> exact h) (by go_simp) ?_
      iterate 15
        (refine' plan_read _ rfl rfl ?_ ?_
         rotate_left
         · (intro W hW; (try dsimp only at hW); go_simp; try rfl)
         simp only [Act.put, List.setIfInBounds_toArray, List.set_cons_zero, List.set_cons_succ])
      refine plan_do _ rfl ?_
      go_wp2
      refine ⟨by go_simp, ?_⟩
      have hW : (w.alloc (.cells #[.string line] 9)).drew.heap[w.heap.size]? = some (.cells #[.string line] 9 (0, 0)) := heap_alloc_new w _
      have hK : Keep w NoB (w.alloc (.cells #[.string line] 9)).drew := ((Keep.refl w NoB).alloc _).drew
      generalize (w.alloc (.cells #[.string line] 9)).drew = W at *
      have HSW : Kp _ := ⟨HSL.out.keep hK fun _ _ h => h⟩
      have HW : Kp _ := ⟨hW⟩
      have HKW : Kp _ := ⟨hK⟩
      have hlb : Kp (r.lb ≠ some w.heap.size) := ⟨fun e => by have := HSL.out.lt e; omega⟩
      clear hW hK
      refine plan_do _ rfl ?_
      go_wp2_with ((with_reducible refine (ins_str HSW.out (vstr_one _) hil hll rfl HW.out hlb.out rfl).mono ?_)
                   rintro e w' ⟨a', c', b', rfl, h2, h3, h4⟩)
      have hsl := HSL.out
      have hbt : ¬ Opt r.lb tb := fun h => hsl.ne_blk HM.out.hd (by decide) h
      have hbn : ¬ Opt r.lb nb := fun h => hsl.types HM.out.nodes (by decide) h HNB.out
      have e0 := h3.cell (HKW.out.cell h0 fun h => h) hbt
      have e1 := h3.cell (HKW.out.cell c0 fun h => h) hbn
      have e2 : w'.frozen? ⟨nb, k * 3, none⟩ = false := by
        rw [h3.frozen (Nat.lt_of_lt_of_le hnbl HKW.out.size) hbn, HKW.out.frozen hnbl fun h => h]
        exact HM.out.nodes.frozen HNB.out _
      refine ⟨⟨e0, e1⟩, plan_end ?_⟩
      simp only [List.drop_succ_cons, List.drop_zero]
      have hv : (vstr x.lines).take i ++ Value.string line :: (vstr x.lines).drop i = vstr (x.lines.insertIdx i line) := by
        rw [insert_split _ _ _ hil]; simp [vstr]
      rw [hv] at h2
      have hlen : (x.lines.insertIdx i line).length = x.lines.length + 1 := by rw [List.length_insertIdx]; simp [hil]
      rw [← hlen] at h2
      have HP : Kp (TPost w F (w'.setCell ⟨nb, k * 3, none⟩ (.slice a' (x.lines.length + 1) c')) tb (S.setNode k ⟨x.lines.insertIdx i line, x.kids, x.count⟩)) := ⟨by
        rw [← hlen]
        refine TMem.setLines HG.out HM.out HRF.out HX.out HR.out HNB.out _ h2 ((HKW.out.mono (G := Opt r.lb) fun _ h => h.elim).trans h3 (Fresh.refl _ _)) fun g hg => ?_
        rcases h4 g hg with h | h
        · exact .inl h
        · exact .inr (Nat.le_trans HKW.out.size h)⟩
      have hle2 := h2.le
      rw [hlen] at hle2
      have hmax2 := h2.max
      clear h2 h3 h4 hbt hbn hsl hv hlen HSW HW HKW hlb HSL c0 c1 c2 h0 hlc hlm
      go_wp2_with fail
      refine (sum_calls HP.out.mem HS1.out).mono ?_
      rintro e W7 ⟨rfl, p7⟩
      have P7 : Kp _ := ⟨HP.out.trans p7⟩
      clear p7 HP
      go_wp2_with fail
      refine (split_calls P7.out.mem HS2.out).mono ?_
      rintro e W8 ⟨rfl, p8⟩
      have P8 : Kp _ := ⟨P7.out.trans p8⟩
      clear p8 P7
      go_wp2_with fail
      go_ret
      exact ⟨rfl, P8.out⟩
    · have hk1 : x.kids.length ≠ 0 := by rw [Ne, List.length_eq_zero_iff]; exact hk0
      have hsk := HM.out.kids HR.out HX.out
      have hkm := hsk.max
      have hkc := hsk.le
      obtain ⟨kb, hkb, hka⟩ := hsk.nonnil (Nat.pos_of_ne_zero hk1)
      rw [hka] at c1
      have hnk : n < x.kids.length := (List.getElem?_eq_some_iff.1 hkid).1
      have hkv := hsk.cell hkb (vint_get hkid)
      have hj : j < 1048576 := by omega
      have HFD : Kp _ := ⟨hfd⟩
      have HIN : Kp _ := ⟨hin⟩
      have HD : Kp _ := ⟨hd⟩
      clear hk0 hsk hka hkb hkid hfd hin hd hji
      go_enter Tryz.func74, Tryz.ntmps74
      go_wp2_with ((with_reducible refine (leaf_calls _ _ _ _ _ _ c1).mono ?_)
                   rintro e w' ⟨rfl, rfl⟩)
      with_reducible refine (find_calls HG.out HFD.out hi).mono ?_
      rintro e w' ⟨rfl, rfl⟩
      go_wp2_with fail
      with_reducible refine (IH.out HG.out HIN.out hj).mono ?_
      rintro e W1 ⟨rfl, p1⟩
      have P1 : Kp _ := ⟨p1⟩
      clear p1 c0 c1 c2 h0 hkv htb hnbl htn hk hle hmax hkm hkc hnk
      rcases HD.out with ⟨rfl, rfl⟩ | ⟨other, x', rfl, hx', hn1, hll, rfl⟩
      · have ho1 : optInt none = -1 := rfl
        rw [ho1]
        have HP : Kp _ := ⟨P1.out⟩
        go_wp2_with fail
        refine (sum_calls HP.out.mem HS1.out).mono ?_
        rintro e W7 ⟨rfl, p7⟩
        have P7 : Kp _ := ⟨HP.out.trans p7⟩
        clear p7 HP
        go_wp2_with fail
        refine (split_calls P7.out.mem HS2.out).mono ?_
        rintro e W8 ⟨rfl, p8⟩
        have P8 : Kp _ := ⟨P7.out.trans p8⟩
        clear p8 P7
        go_wp2_with fail
        go_ret
        exact ⟨rfl, P8.out⟩
      · have ho1 : optInt (some other) = (other : Int) := rfl
        rw [ho1]
        have ho2 : ¬ ((other : Int) = -1) := by omega
        obtain ⟨⟨R2, hm, hRF⟩, hFlt⟩ := P1.out.mem
        obtain ⟨nb2, r2, hnb, hna, hr, hk, hle, hmax, c0, c1, c2⟩ := hm.node hx'
        have h0 := hm.cell0
        rw [hna] at h0
        have htb : tb < W1.heap.size := hm.lt (.inl rfl)
        have hnbl : nb2 < W1.heap.size := hm.nodes.lt hnb
        have htn : nb2 ≠ tb := fun e => hm.nodes.ne_blk hm.hd (by decide) (e ▸ hnb)
        have hsl := hm.kids hr hx'
        have hlm := hsl.max
        have hlc := hsl.le
        have HSL2 : Kp _ := ⟨hsl⟩
        have HM2 : Kp _ := ⟨hm⟩
        have HRF2 : Kp _ := ⟨hRF⟩
        have HX2 : Kp _ := ⟨hx'⟩
        have HR2 : Kp _ := ⟨hr⟩
        have HNB2 : Kp _ := ⟨hnb⟩
        have hn2 : n + 1 < 1048576 := by omega
        clear hm hRF hFlt hnb hna hr hsl hx' HM HRF HX HR HNB
        go_wp2_with fail
        refine wp_region_plan (fun W => W.cell? ⟨tb, 0, none⟩ = some (.slice (some ⟨nb2, 0, none⟩) Sa.nodes.length R2.nc) ∧ W.cell? ⟨nb2, k * 3 + 1, none⟩ = some (.slice r2.ka x'.kids.length r2.kc))
          [(true, 0), (true, 1), (true, 2), (true, 3), (true, 4), (true, 5), (true, 6), (true, 7), (true, 8), (true, 9), (true, 10), (true, 11), (true, 12), (true, 13), (true, 14), (true, 15), (false, 16), (false, 17)] 18 (by kernel_rfl) (by kernel_rfl) (fun _ _ d _ _ h => by cases d <;> exact h) (by go_simp) ?_
        iterate 16
          (refine' plan_read _ rfl rfl ?_ ?_
           rotate_left
           · (intro W hW; (try dsimp only at hW); go_simp; try rfl)
           simp only [Act.put, List.setIfInBounds_toArray, List.set_cons_zero, List.set_cons_succ])
        refine plan_do _ rfl ?_
        go_wp2
        refine ⟨by go_simp, ?_⟩
        have hW : (W1.alloc (.cells #[.int .i64 (other : Int)] 3)).drew.heap[W1.heap.size]? = some (.cells #[.int .i64 (other : Int)] 3 (0, 0)) := heap_alloc_new W1 _
        have hK : Keep W1 NoB (W1.alloc (.cells #[.int .i64 (other : Int)] 3)).drew := ((Keep.refl W1 NoB).alloc _).drew
        generalize (W1.alloc (.cells #[.int .i64 (other : Int)] 3)).drew = W at *
        have HSW : Kp _ := ⟨HSL2.out.keep hK fun _ _ h => h⟩
        have HW : Kp _ := ⟨hW⟩
        have HKW : Kp _ := ⟨hK⟩
        have hlb : Kp (r2.kb ≠ some W1.heap.size) := ⟨fun e => by have := HSL2.out.lt e; omega⟩
        clear hW hK
        refine plan_do _ rfl ?_
        go_wp2_with ((with_reducible refine (ins_int HSW.out (vint_one _) hn1 hll rfl HW.out hlb.out (by omega)).mono ?_)
                     rintro e w' ⟨a', c', b', rfl, h2, h3, h4⟩)
        have hsl := HSL2.out
        have hbt : ¬ Opt r2.kb tb := fun h => hsl.ne_blk HM2.out.hd (by decide) h
        have hbn : ¬ Opt r2.kb nb2 := fun h => hsl.types HM2.out.nodes (by decide) h HNB2.out
        have e0 := h3.cell (HKW.out.cell h0 fun h => h) hbt
        have e1 := h3.cell (HKW.out.cell c1 fun h => h) hbn
        have e2 : w'.frozen? ⟨nb2, k * 3 + 1, none⟩ = false := by
          rw [h3.frozen (Nat.lt_of_lt_of_le hnbl HKW.out.size) hbn, HKW.out.frozen hnbl fun h => h]
          exact HM2.out.nodes.frozen HNB2.out _
        refine ⟨⟨e0, e1⟩, plan_end ?_⟩
        simp only [List.drop_succ_cons, List.drop_zero]
        have hv : (vint x'.kids).take (n + 1) ++ Value.int .i64 (other : Int) :: (vint x'.kids).drop (n + 1) = vint (x'.kids.insertIdx (n + 1) other) := by
          rw [insert_split _ _ _ hn1]; simp [vint]
        rw [hv] at h2
        have hlen : (x'.kids.insertIdx (n + 1) other).length = x'.kids.length + 1 := by rw [List.length_insertIdx]; simp [hn1]
        rw [← hlen] at h2
        have HP : Kp (TPost w F (w'.setCell ⟨nb2, k * 3 + 1, none⟩ (.slice a' (x'.kids.length + 1) c')) tb (Sa.setNode k ⟨x'.lines, x'.kids.insertIdx (n + 1) other, x'.count⟩)) := ⟨by
          rw [← hlen]
          refine P1.out.trans (TMem.setKids P1.out.mem HM2.out HRF2.out HX2.out HR2.out HNB2.out _ h2 ((HKW.out.mono (G := Opt r2.kb) fun _ h => h.elim).trans h3 (Fresh.refl _ _)) fun g hg => ?_)
          rcases h4 g hg with h | h
          · exact .inl h
          · exact .inr (Nat.le_trans HKW.out.size h)⟩
        have hle2 := h2.le
        rw [hlen] at hle2
        have hmax2 := h2.max
        clear h2 h3 h4 hbt hbn hsl hv hlen HSW HW HKW hlb HSL2 c0 c1 c2 h0 hlc hlm P1
        go_wp2_with fail
        refine (sum_calls HP.out.mem HS1.out).mono ?_
        rintro e W7 ⟨rfl, p7⟩
        have P7 : Kp _ := ⟨HP.out.trans p7⟩
        clear p7 HP
        go_wp2_with fail
        refine (split_calls P7.out.mem HS2.out).mono ?_
        rintro e W8 ⟨rfl, p8⟩
        have P8 : Kp _ := ⟨P7.out.trans p8⟩
        clear p8 P7
        go_wp2_with fail
        go_ret
        exact ⟨rfl, P8.out⟩
termination_by f => f

end Go.Proofs

/- The walks of the tree's Insert and New. -/
namespace Go.Proofs
open Go.RowKit Go.Em

theorem _root_.Go.Em.TMem.hasTb {w : World} {tb : Nat} {S : TS} {F : Blocks} (h : TMem w tb S F) : F tb := by
  obtain ⟨⟨R, _, h1⟩, _⟩ := h
  exact h1 tb (.inl rfl)
theorem _root_.Go.Em.TPost.setRoot {w w' : World} {F : Blocks} {tb : Nat} {S' : TS} (h : TPost w F w' tb S') (r : Nat) : TPost w F (w'.setCell ⟨tb, 2, none⟩ (.int .i64 (r : Int))) tb { S' with root := r } := by
  obtain ⟨⟨R, hm, hRF⟩, hlt⟩ := h.mem
  obtain ⟨m, k⟩ := hm.setRoot r
  exact h.trans (TPost.of h.mem m (k.mono fun b hb => hb ▸ h.mem.hasTb) fun b hb => .inl (hRF b hb))
theorem _root_.Go.Em.TPost.setBytes {w w' : World} {F : Blocks} {tb : Nat} {S' : TS} (h : TPost w F w' tb S') (r : Int) : TPost w F (w'.setCell ⟨tb, 3, none⟩ (.int .i64 r)) tb { S' with bytes := r } := by
  obtain ⟨⟨R, hm, hRF⟩, hlt⟩ := h.mem
  obtain ⟨m, k⟩ := hm.setBytes r
  exact h.trans (TPost.of h.mem m (k.mono fun b hb => hb ▸ h.mem.hasTb) fun b hb => .inl (hRF b hb))
theorem _root_.Go.Em.TMem.head {w : World} {tb : Nat} {S : TS} {F : Blocks} (h : TMem w tb S F) : ∃ by_ : Int, w.cell? ⟨tb, 2, none⟩ = some (.int .i64 (S.root : Int)) ∧ w.cell? ⟨tb, 3, none⟩ = some (.int .i64 by_) ∧ w.frozen? ⟨tb, 2, none⟩ = false ∧ w.frozen? ⟨tb, 3, none⟩ = false ∧ tb < w.heap.size := by
  obtain ⟨⟨R, hm, hRF⟩, hlt⟩ := h
  exact ⟨S.bytes, hm.cell2, hm.cell3, hm.frozen 2, hm.frozen 3, hm.lt (.inl rfl)⟩

theorem _root_.Go.Em.TMem.quiet {w : World} {tb : Nat} {S : TS} {F : Blocks} (h : TMem w tb S F) (q : Nat) : TPost w F (w.drewN q) tb S := by
  have hh := h
  obtain ⟨⟨R, hm, hRF⟩, hlt⟩ := h
  exact TPost.of hh (hm.drewN q) ((Keep.refl w F).drewN q) fun b hb => .inl (hRF b hb)

theorem insertTop_inv {f : Nat} {S S' : TS} {i : Nat} {line : ByteArray} (h : TS.insertTop f S i line = some S') :
    ∃ o Sa, TS.insert f S S.root i line = some (o, Sa) ∧ ((o = none ∧ S' = Sa) ∨ ∃ other r S2, o = some other ∧ Sa.make ⟨[], [Sa.root, other], 0⟩ = some (r, S2) ∧ ({ S2 with root := r } : TS).sum r = some S') := by
  unfold TS.insertTop at h
  split at h
  · cases h
  · rename_i Sa hi
    exact ⟨none, Sa, hi, .inl ⟨rfl, (Option.some.inj h).symm⟩⟩
  · rename_i other Sa hi
    split at h
    · cases h
    · rename_i r S2 hm
      exact ⟨some other, Sa, hi, .inr ⟨other, r, S2, rfl, hm, h⟩⟩

/-- Nothing is laid behind the end. -/
theorem Insert_out {w : World} {tb : Nat} {S : TS} {F : Blocks} (h : TMem w tb S F) {n : Nat} {i : Int} (hl : S.len = some n) (hi : i < 0 ∨ (n : Int) < i) (line : ByteArray) :
    Calls Tryz.prog 42 #[.pointer (some ⟨tb, 0, none⟩), .int .i64 i, .string line] w fun e w' => e = .returned (.bool false) ∧ TPost w F w' tb S := by
  have HG : Kp _ := ⟨h⟩
  have HL : Kp _ := ⟨hl⟩
  clear h hl
  go_enter Tryz.func42, Tryz.ntmps42
  go_wp2_with ((refine (len_calls HG.out HL.out).mono ?_)
               rintro e w' ⟨rfl, q, rfl⟩)
  · go_ret
    exact ⟨rfl, HG.out.quiet q⟩
  · go_ret
    exact ⟨rfl, TPost.refl HG.out⟩

set_option maxRecDepth 100000 in
set_option maxHeartbeats 1000000 in
theorem Insert_calls {w : World} {tb : Nat} {S S' : TS} {F : Blocks} (h : TMem w tb S F) {n i f : Nat} (hl : S.len = some n) (hi : i ≤ n) (hn : n < 1048576) {line : ByteArray} (hs : TS.insertTop f S i line = some S') :
    Calls Tryz.prog 42 #[.pointer (some ⟨tb, 0, none⟩), .int .i64 (i : Int), .string line] w fun e w' => e = .returned (.bool true) ∧ ∃ by_ : Int, TPost w F w' tb { S' with bytes := by_ } := by
  have HG : Kp _ := ⟨h⟩
  have HL : Kp _ := ⟨hl⟩
  have hib : i < 1048576 := by omega
  have hii : ¬ ((n : Int) < (i : Int)) := by omega
  obtain ⟨o, Sa, hin, hd⟩ := insertTop_inv hs
  have HIN : Kp _ := ⟨hin⟩
  have HD : Kp _ := ⟨hd⟩
  clear h hl hin hd hs
  go_enter Tryz.func42, Tryz.ntmps42
  go_wp2_with fail
  refine (len_calls HG.out HL.out).mono ?_
  rintro e W ⟨rfl, q, hq⟩
  have P0 : Kp (TPost w F W tb S) := ⟨by rw [hq]; exact HG.out.quiet q⟩
  clear hq
  obtain ⟨b0, h2, h3, z2, z3, htb⟩ := P0.out.mem.head
  go_wp2_with fail
  refine (insert_calls f P0.out.mem HIN.out hib).mono ?_
  rintro e W1 ⟨rfl, p1⟩
  have P1 : Kp _ := ⟨P0.out.trans p1⟩
  clear p1 P0 h2 h3 z2 z3 htb
  obtain ⟨b1, h2, h3, z2, z3, htb⟩ := P1.out.mem.head
  rcases HD.out with ⟨rfl, rfl⟩ | ⟨other, r, S2, rfl, hmk, hsm⟩
  · have ho1 : optInt none = -1 := rfl
    rw [ho1]
    go_wp2_with fail
    go_ret
    exact ⟨rfl, _, P1.out.setBytes _⟩
  · have ho1 : optInt (some other) = (other : Int) := rfl
    rw [ho1]
    have ho2 : ¬ ((other : Int) = -1) := by omega
    have HMK : Kp _ := ⟨hmk⟩
    have HSM : Kp _ := ⟨hsm⟩
    clear hmk hsm
    go_wp2_with fail
    have m1 := P1.out.mem.keep ((Keep.refl W1 NoB).alloc (.cells #[.int .i64 (Sa.root : Int), .int .i64 (other : Int)] 3)) fun _ _ h => h
    have hsz := P1.out.keep.size
    have hout : ∀ g, some W1.heap.size = some g → ¬ Ext F w W1 g := fun g hg h => by
      cases hg
      rcases h with h | h
      · have := HG.out.lt _ h; omega
      · omega
    have mk := make_calls (x := ⟨[], [Sa.root, other], 0⟩) (r := ⟨none, 0, none, some ⟨W1.heap.size, 0, none⟩, 2, some W1.heap.size⟩) m1 HMK.out (Sl.nil _ _ _)
      (Sl.made W1 3 1 2 2 #[.int .i64 (Sa.root : Int), .int .i64 (other : Int)] (by omega) (by omega) (by simp)) (fun g hg => by cases hg) hout
    have KK : Kp (Keep w F _) := ⟨P1.out.keep.alloc (.cells #[.int .i64 (Sa.root : Int), .int .i64 (other : Int)] 3)⟩
    refine mk.mono ?_
    clear mk m1 hout h2 h3 z2 z3 htb
    rintro e W2 ⟨rfl, p2⟩
    have P2 : Kp (TPost w F W2 tb S2) := ⟨TPost.pre KK.out p2 (fun b hb => by
      rcases hb with h | h | h
      · exact h.imp id (·.1)
      · cases h
      · cases h; exact .inr hsz) fun b hb => HG.out.lt b hb⟩
    clear p2 KK hsz
    obtain ⟨b2, h2, h3, z2, z3, htb⟩ := P2.out.mem.head
    go_wp2_with fail
    refine (sum_calls (P2.out.setRoot r).mem HSM.out).mono ?_
    clear h2 h3 z2 z3 htb
    rintro e W3 ⟨rfl, p3⟩
    have P3 : Kp _ := ⟨(P2.out.setRoot r).trans p3⟩
    clear p3 P2
    obtain ⟨b3, h2, h3, z2, z3, htb⟩ := P3.out.mem.head
    go_wp2_with fail
    go_ret
    exact ⟨rfl, _, P3.out.setBytes _⟩

end Go.Proofs

namespace Go.Em

theorem Part.nodup {A : List Nat} {S : TS} (h : Part A S) : (A ++ S.free).Nodup := (h.nodup_iff).2 List.nodup_range
theorem Part.lt {A : List Nat} {S : TS} (h : Part A S) {j : Nat} (hj : j ∈ A) : j < S.nodes.length := by
  have := (h.mem_iff (a := j)).1 (List.mem_append.2 (.inl hj)); simpa using this
theorem Part.ltf {A : List Nat} {S : TS} (h : Part A S) {j : Nat} (hj : j ∈ S.free) : j < S.nodes.length := by
  have := (h.mem_iff (a := j)).1 (List.mem_append.2 (.inr hj)); simpa using this
theorem Part.notfree {A : List Nat} {S : TS} (h : Part A S) {j : Nat} (hj : j ∈ A) : j ∉ S.free := by
  have := h.nodup
  rw [List.nodup_append] at this
  exact fun hf => this.2.2 j hj j hf rfl
theorem Part.perm {A B : List Nat} {S : TS} (h : Part A S) (hp : B.Perm A) : Part B S := (hp.append_right S.free).trans h
theorem Part.set {A : List Nat} {S : TS} (h : Part A S) (k : Nat) (x : ND) : Part A (S.setNode k x) := by
  simpa [Part, TS.setNode] using h
theorem Part.nodupA {A : List Nat} {S : TS} (h : Part A S) : A.Nodup := (List.nodup_append.1 h.nodup).1
theorem Part.length {A : List Nat} {S : TS} (h : Part A S) : A.length + S.free.length = S.nodes.length := by
  have := h.length_eq; simpa using this

structure Grow (S S' : TS) (m : Nat) : Prop where
  ge : S.nodes.length ≤ S'.nodes.length
  le : S'.nodes.length ≤ S.nodes.length + m
  full : S.nodes.length < S'.nodes.length → S'.free = []
  keeps : S.free = [] → S'.free = []
  root : S'.root = S.root

theorem Grow.refl (S : TS) : Grow S S 0 := ⟨Nat.le_refl _, by omega, fun h => by omega, fun h => h, rfl⟩
theorem Grow.set (S : TS) (k : Nat) (x : ND) : Grow S (S.setNode k x) 0 := ⟨by simp [TS.setNode], by simp [TS.setNode], fun h => by simp [TS.setNode] at h, fun h => h, rfl⟩
theorem Grow.trans {S S1 S2 : TS} {a b : Nat} (h : Grow S S1 a) (k : Grow S1 S2 b) : Grow S S2 (a + b) := by
  refine ⟨Nat.le_trans h.ge k.ge, by have := h.le; have := k.le; omega, fun hh => ?_, fun hf => k.keeps (h.keeps hf), k.root.trans h.root⟩
  by_cases h1 : S1.nodes.length < S2.nodes.length
  · exact k.full h1
  · exact k.keeps (h.full (by have := k.ge; omega))
theorem Grow.mono {S S1 : TS} {a b : Nat} (h : Grow S S1 a) (hb : a ≤ b) : Grow S S1 b := ⟨h.ge, by have := h.le; omega, h.full, h.keeps, h.root⟩

theorem set_get (S : TS) (k : Nat) (x : ND) (h : k < S.nodes.length) : (S.setNode k x).nodes[k]? = some x := by
  simp [TS.setNode, h]
theorem set_other (S : TS) {k j : Nat} (x : ND) (h : j ≠ k) : (S.setNode k x).nodes[j]? = S.nodes[j]? := by
  simp only [TS.setNode]; rw [List.getElem?_set_ne (by omega)]

theorem getLast_split {α : Type} {l : List α} {k : α} (h : l.getLast? = some k) : l = l.dropLast ++ [k] := by
  obtain ⟨ys, rfl⟩ := List.getLast?_eq_some_iff.1 h
  simp

theorem make_spec {A : List Nat} {S : TS} (x : ND) (h : Part A S) (hc : S.nodes.length < cap) :
    ∃ k S', S.make x = some (k, S') ∧ Part (k :: A) S' ∧ S'.nodes[k]? = some x ∧ (∀ j, j ∈ A → S'.nodes[j]? = S.nodes[j]?) ∧ Grow S S' 1 := by
  unfold TS.make
  cases hl : S.free.getLast? with
  | none =>
    have hf : S.free = [] := by simpa using hl
    simp only [if_pos hc]
    refine ⟨_, _, rfl, ?_, by simp, fun j hj => ?_, ⟨by simp, by simp, fun _ => hf, fun h => h, rfl⟩⟩
    · unfold Part at h ⊢
      simp only [hf, List.append_nil, List.length_append, List.length_cons, List.length_nil, List.range_succ, Nat.zero_add] at h ⊢
      refine List.Perm.trans (List.Perm.cons _ h) ?_
      exact (List.perm_append_comm (l₁ := [_]))
    · have := h.lt hj
      simp only; rw [List.getElem?_append_left this]
  | some k =>
    have hk : k ∈ S.free := List.mem_of_getLast? hl
    have hlt := h.ltf hk
    have hd : S.free = S.free.dropLast ++ [k] := getLast_split hl
    simp only [if_pos hlt]
    refine ⟨_, _, rfl, ?_, by simp [hlt], fun j hj => ?_, ⟨by simp, by simp, fun h => by simp at h, fun h => by rw [h] at hl; simp at hl, rfl⟩⟩
    · unfold Part at h ⊢
      simp only [List.length_set]
      rw [hd] at h
      refine List.Perm.trans ?_ h
      simp only [List.cons_append]
      rw [← List.append_assoc]
      exact (List.perm_append_comm (l₁ := [k]) (l₂ := A ++ S.free.dropLast))
    · have : j ≠ k := fun e => h.notfree hj (e ▸ hk)
      simp only; rw [List.getElem?_set_ne (by omega)]

theorem drop_spec {A : List Nat} {S : TS} {k : Nat} (h : Part (k :: A) S) (hc : S.nodes.length < cap) :
    ∃ S', S.drop k = some S' ∧ Part A S' ∧ (∀ j, j ≠ k → S'.nodes[j]? = S.nodes[j]?) ∧ S'.nodes.length = S.nodes.length ∧ S'.root = S.root := by
  have hk := h.lt (j := k) (by simp)
  have hl := h.length
  unfold TS.drop
  rw [if_pos hk, if_pos (by omega)]
  refine ⟨_, rfl, ?_, fun j hj => ?_, by simp, rfl⟩
  · unfold Part at h ⊢
    simp only [List.length_set]
    refine List.Perm.trans ?_ h
    rw [← List.append_assoc]
    exact (List.perm_append_comm (l₁ := A ++ S.free) (l₂ := [k]))
  · simp only; rw [List.getElem?_set_ne (by omega)]

/-! ## Lists of subtrees -/

theorem All3.mono {R R' : Nat → List ByteArray → List Nat → Prop} : ∀ {ks ls us}, All3 R ks ls us → (∀ k l u, k ∈ ks → u ∈ us → R k l u → R' k l u) → All3 R' ks ls us
  | [], [], [], _, _ => trivial
  | k :: ks, l :: ls, u :: us, h, hr => ⟨hr k l u (by simp) (by simp) h.1, All3.mono h.2 fun k' l' u' hk hu => hr k' l' u' (by simp [hk]) (by simp [hu])⟩
  | [], [], _ :: _, h, _ => h.elim
  | [], _ :: _, _, h, _ => h.elim
  | _ :: _, [], _, h, _ => h.elim
  | _ :: _, _ :: _, [], h, _ => h.elim

theorem All3.append {R : Nat → List ByteArray → List Nat → Prop} : ∀ {ks ls us ks' ls' us'}, All3 R ks ls us → All3 R ks' ls' us' → All3 R (ks ++ ks') (ls ++ ls') (us ++ us')
  | [], [], [], _, _, _, _, h' => h'
  | _ :: _, _ :: _, _ :: _, _, _, _, h, h' => ⟨h.1, All3.append h.2 h'⟩
  | [], [], _ :: _, _, _, _, h, _ => h.elim
  | [], _ :: _, _, _, _, _, h, _ => h.elim
  | _ :: _, [], _, _, _, _, h, _ => h.elim
  | _ :: _, _ :: _, [], _, _, _, h, _ => h.elim

theorem All3.split {R : Nat → List ByteArray → List Nat → Prop} : ∀ {ks ls us} (n : Nat), All3 R ks ls us → All3 R (ks.take n) (ls.take n) (us.take n) ∧ All3 R (ks.drop n) (ls.drop n) (us.drop n)
  | ks, ls, us, 0, h => ⟨by simp [All3], by simpa using h⟩
  | [], [], [], n + 1, _ => ⟨trivial, trivial⟩
  | _ :: ks, _ :: ls, _ :: us, n + 1, h => by
    have := All3.split n h.2
    exact ⟨⟨h.1, this.1⟩, this.2⟩
  | [], [], _ :: _, _ + 1, h => h.elim
  | [], _ :: _, _, _ + 1, h => h.elim
  | _ :: _, [], _, _ + 1, h => h.elim
  | _ :: _, _ :: _, [], _ + 1, h => h.elim

theorem All3.lengths {R : Nat → List ByteArray → List Nat → Prop} : ∀ {ks ls us}, All3 R ks ls us → ls.length = ks.length ∧ us.length = ks.length
  | [], [], [], _ => ⟨rfl, rfl⟩
  | _ :: _, _ :: _, _ :: _, h => by have := All3.lengths h.2; simp [this]
  | [], [], _ :: _, h => h.elim
  | [], _ :: _, _, h => h.elim
  | _ :: _, [], _, h => h.elim
  | _ :: _, _ :: _, [], h => h.elim

/-- A list's middle. -/
theorem All3.mid {R : Nat → List ByteArray → List Nat → Prop} {ks ls us} (n : Nat) (hn : n < ks.length) (h : All3 R ks ls us) :
    ∃ k l u, ks = ks.take n ++ k :: ks.drop (n + 1) ∧ ls = ls.take n ++ l :: ls.drop (n + 1) ∧ us = us.take n ++ u :: us.drop (n + 1) ∧
      R k l u ∧ All3 R (ks.take n) (ls.take n) (us.take n) ∧ All3 R (ks.drop (n + 1)) (ls.drop (n + 1)) (us.drop (n + 1)) := by
  obtain ⟨h1, h2⟩ := All3.split n h
  have hl := All3.lengths h
  have e1 : ks.drop n = ks[n] :: ks.drop (n + 1) := (List.drop_eq_getElem_cons hn)
  have e2 : ls.drop n = ls[n]'(by omega) :: ls.drop (n + 1) := (List.drop_eq_getElem_cons (by omega))
  have e3 : us.drop n = us[n]'(by omega) :: us.drop (n + 1) := (List.drop_eq_getElem_cons (by omega))
  rw [e1, e2, e3] at h2
  refine ⟨ks[n], ls[n]'(by omega), us[n]'(by omega), ?_, ?_, ?_, h2.1, h1, h2.2⟩
  · rw [← e1, List.take_append_drop]
  · rw [← e2, List.take_append_drop]
  · rw [← e3, List.take_append_drop]

/-! ## A subtree hangs on its own nodes alone -/

theorem Rep.root_mem {N : List ND} : ∀ {h k l us}, Rep N h k l us → k ∈ us
  | 0, _, _, _, h => by rw [h.1]; simp
  | _ + 1, _, _, _, h => by obtain ⟨_, _, _, _, _, _, _, rfl⟩ := h; simp

theorem Rep.congr {N N' : List ND} : ∀ {h k l us}, Rep N h k l us → (∀ j, j ∈ us → N'[j]? = N[j]?) → Rep N' h k l us
  | 0, k, l, us, h, hc => by
    obtain ⟨rfl, h2⟩ := h
    exact ⟨rfl, by rw [hc k (by simp)]; exact h2⟩
  | h + 1, k, l, us, hr, hc => by
    obtain ⟨kids, ls, uss, hk, hne, ha, hl, rfl⟩ := hr
    refine ⟨kids, ls, uss, by rw [hc k (by simp)]; exact hk, hne, ha.mono ?_, hl, rfl⟩
    intro k' l' u' _ hu ⟨h1, x, hx, h2⟩
    have hsub : ∀ j, j ∈ u' → N'[j]? = N[j]? := fun j hj => hc j (by simp; exact .inr ⟨u', hu, hj⟩)
    exact ⟨Rep.congr h1 hsub, x, by rw [hsub k' h1.root_mem]; exact hx, h2⟩

theorem Rep.count {N : List ND} : ∀ {h k l us}, Rep N h k l us → ∃ x, N[k]? = some x ∧ x.count = l.length
  | 0, _, _, _, h => ⟨_, h.2, rfl⟩
  | _ + 1, _, _, _, h => by obtain ⟨kids, ls, uss, hk, _⟩ := h; exact ⟨_, hk, rfl⟩

theorem All3.congr {N N' : List ND} {h : Nat} {ks ls us} (ha : All3 (fun k l u => Rep N h k l u ∧ Fit N k) ks ls us) (hc : ∀ j, j ∈ us.flatten → N'[j]? = N[j]?) :
    All3 (fun k l u => Rep N' h k l u ∧ Fit N' k) ks ls us :=
  ha.mono fun k l u _ hu ⟨h1, x, hx, h2⟩ =>
    have hsub : ∀ j, j ∈ u → N'[j]? = N[j]? := fun j hj => hc j (List.mem_flatten.2 ⟨u, hu, hj⟩)
    ⟨h1.congr hsub, x, by rw [hsub k h1.root_mem]; exact hx, h2⟩

theorem addCounts_spec {N : List ND} {h : Nat} : ∀ {ks ls us} (c : Nat), All3 (fun k l u => Rep N h k l u ∧ Fit N k) ks ls us → c + ls.flatten.length < cap →
    addCounts N ks c = some (c + ls.flatten.length)
  | [], [], [], c, _, _ => by simp [addCounts]
  | k :: ks, l :: ls, u :: us, c, ha, hc => by
    obtain ⟨x, hx, hcnt⟩ := ha.1.1.count
    simp only [List.flatten_cons, List.length_append] at hc ⊢
    simp only [addCounts, hx, hcnt]
    rw [if_pos (by omega), addCounts_spec (c + l.length) ha.2 (by omega)]
    congr 1; omega
  | [], [], _ :: _, _, h, _ => h.elim
  | [], _ :: _, _, _, h, _ => h.elim
  | _ :: _, [], _, _, h, _ => h.elim
  | _ :: _, _ :: _, [], _, h, _ => h.elim

theorem findGo_spec {N : List ND} {h : Nat} : ∀ {ks ls us} (n0 i : Nat), All3 (fun k l u => Rep N h k l u ∧ Fit N k) ks ls us → ks ≠ [] → i ≤ ls.flatten.length →
    ∃ n j, findGo N ks n0 i = some (n0 + n, j) ∧ n < ks.length ∧ i = (ls.take n).flatten.length + j ∧ (∀ l, ls[n]? = some l → j ≤ l.length) ∧
      (i < ls.flatten.length → ∀ l, ls[n]? = some l → j < l.length)
  | [], _, _, _, _, _, hne, _ => absurd rfl hne
  | k :: ks, l :: ls, u :: us, n0, i, ha, _, hi => by
    obtain ⟨x, hx, hcnt⟩ := ha.1.1.count
    simp only [findGo, hx, hcnt]
    simp only [List.flatten_cons, List.length_append] at hi
    by_cases hc : i < l.length ∨ ks = []
    · rw [if_pos hc]
      refine ⟨0, i, by simp, by simp, by simp, fun l' hl' => ?_, fun hlt l' hl' => ?_⟩
      · simp at hl'; subst hl'
        rcases hc with hc | hc
        · omega
        · subst hc
          have : ls = [] := by have := (All3.lengths ha.2).1; simpa using this
          subst this; simp at hi; omega
      · simp at hl'; subst hl'
        rcases hc with hc | hc
        · omega
        · subst hc
          have : ls = [] := by have := (All3.lengths ha.2).1; simpa using this
          subst this; simpa using hlt
    · rw [if_neg hc]
      have hc1 : ¬ i < l.length := fun h => hc (.inl h)
      have hc2 : ks ≠ [] := fun h => hc (.inr h)
      obtain ⟨n, j, h1, h2, h3, h4, h5⟩ := findGo_spec (n0 + 1) (i - l.length) ha.2 hc2 (by omega)
      refine ⟨n + 1, j, by rw [h1]; congr 2; omega, by simp; omega, by rw [List.take_succ_cons, List.flatten_cons, List.length_append]; omega, fun l' hl' => h4 l' (by simpa using hl'), fun hlt l' hl' => h5 (by rw [List.flatten_cons, List.length_append] at hlt; omega) l' (by simpa using hl')⟩
  | _ :: _, [], _, _, _, h, _, _ => h.elim
  | _ :: _, _ :: _, [], _, _, h, _, _ => h.elim

end Go.Em
