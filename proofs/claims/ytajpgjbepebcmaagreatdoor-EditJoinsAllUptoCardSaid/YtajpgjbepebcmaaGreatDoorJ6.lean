/- EditJoinsAll: the law answers true at every input of bulk at most 1048576, and each argument reads afterwards as it read before. Its card: what the row lists of the library's tables is tied to the program's text by the given tie. -/
import Derived.Test.YtajpgjbepebcmaaGreatDoorJ5
import Derived.Deep.DeepLaidRun
/- The walk of the law EditYanks. -/
namespace Go.Proofs
open Go.RowKit Go.Em

theorem slice_str (ad : Addr) {n c i m : Nat} (h1 : i + m ≤ n) (h2 : n ≤ c) (hci : i < c) (W : World) {x y : Int} (hx : x = (i : Int)) (hy : y = (i : Int) + (m : Int)) :
    (Instr.slice 22 (.slice (some ad) n c) (some (.int .i64 x)) (some (.int .i64 y)) none).run Tryz.prog W = .ok (.slice (some (ad.add i)) m (c - i)) W := by
  subst hx; subst hy
  have hci' : ¬ c = i := by omega
  go_simp
  rw [if_pos ⟨by omega, by omega⟩, if_pos (by omega), show ((i : Int) + (m : Int)).toNat - i = m by omega]

set_option maxRecDepth 100000 in
set_option maxHeartbeats 2000000 in
theorem yanks_known {w : World} {a : Option Addr} {n c : Nat} {xs : List ByteArray} (hr : Rd w 1 a n (vstr xs)) (hn : n < 9223372036854775807) (hw : weigh xs < 9223372036854775807) (fr tt name : Int) (h : (300 < n ∨ 6000 < weigh xs) ∨ n = 0) :
    Calls Tryz.prog 5 #[.slice a n c, .int .i64 fr, .int .i64 tt, .int .u8 name] w fun e w' => e = .returned (.bool true) ∧ Keep w NoB w' := by
  have HR : Kp _ := ⟨hr⟩
  clear hr
  by_cases hh : 300 < n ∨ 6000 < weigh xs
  · have hd : decide (300 < n ∨ 6000 < weigh xs ∨ 30 < 0) = true := by simpa [or_assoc] using hh
    clear h hh
    go_enter Tryz.func5, Tryz.ntmps5
    go_wp2_with fail
    refine (heavy_calls HR.out hn hw).mono ?_
    rintro e w' ⟨rfl, rfl⟩
    rw [hd]
    go_wp2_with ((with_reducible refine (known_calls _).mono ?_)
                 rintro e w' ⟨rfl, hb⟩
                 have HB : Kp _ := ⟨hb⟩
                 clear hb)
    go_ret
    exact ⟨rfl, Keep.of_below HB.out _⟩
  · have h0 : n = 0 := h.resolve_left hh
    subst h0
    have hd : decide (300 < 0 ∨ 6000 < weigh xs ∨ 30 < 0) = false := by simp at hh ⊢; omega
    clear h hh
    go_enter Tryz.func5, Tryz.ntmps5
    go_wp2_with fail
    refine (heavy_calls HR.out hn hw).mono ?_
    rintro e w' ⟨rfl, rfl⟩
    rw [hd]
    go_wp2_with ((with_reducible refine (known_calls _).mono ?_)
                 rintro e w' ⟨rfl, hb⟩
                 have HB : Kp _ := ⟨hb⟩
                 clear hb)
    go_ret
    exact ⟨rfl, Keep.of_below HB.out _⟩

set_option maxRecDepth 100000 in
set_option maxHeartbeats 2000000 in
theorem yanks_long {w : World} {a : Option Addr} {n c : Nat} {xs : List ByteArray} (hr : Rd w 1 a n (vstr xs)) (h0 : 0 < n) (hn : n ≤ 300) (hw : weigh xs ≤ 6000) (hl : isLong xs = true) (fr tt name : Int) :
    Calls Tryz.prog 5 #[.slice a n c, .int .i64 fr, .int .i64 tt, .int .u8 name] w fun e w' => e = .returned (.bool true) ∧ Keep w NoB w' := by
  have HR : Kp _ := ⟨hr⟩
  have HL : Kp _ := ⟨hl⟩
  clear hr hl
  have hd : decide (300 < n ∨ 6000 < weigh xs ∨ 30 < 0) = false := by simp; omega
  have hn0 : ¬ ((n : Int) = 0) := by omega
  go_enter Tryz.func5, Tryz.ntmps5
  go_wp2_with fail
  refine (heavy_calls HR.out (by omega) (by omega)).mono ?_
  rintro e w' ⟨rfl, rfl⟩
  rw [hd]
  clear hw
  go_wp2_with ((with_reducible refine (known_calls _).mono ?_)
               rintro e w1 ⟨rfl, hb⟩
               have HB : Kp _ := ⟨Keep.of_below hb NoB⟩
               clear hb)
  refine (new_buf_long (HR.out.keep HB.out fun _ _ h => h) (by omega) HL.out (by omega) (by omega)).mono ?_
  rintro e w2 ⟨rfl, k2⟩
  have K2 : Kp (Keep w NoB w2) := ⟨HB.out.trans k2 (Fresh.refl _ _)⟩
  clear k2
  go_wp2_with fail
  refine (new_regs w2).mono ?_
  rintro e w3 ⟨rb, G, rfl, r3, k3, f3⟩
  have K3 : Kp (Keep w NoB w3) := ⟨K2.out.trans k3 (Fresh.refl _ _)⟩
  clear r3 k3 f3
  go_wp2_with fail
  go_ret
  exact ⟨rfl, K3.out⟩

set_option maxRecDepth 100000 in
set_option maxHeartbeats 4000000 in
theorem yanks_ok {w : World} {a : Option Addr} {n c : Nat} {xs : List ByteArray} (hr : Rd w 1 a n (vstr xs)) (hc : n ≤ c) (hcm : c ≤ 9223372036854775807) (h0 : 0 < n) (hn : n ≤ 300) (hw : weigh xs ≤ 6000) (hl : isLong xs = false) (fr tt name : Int) (hnm0 : 0 ≤ name) (hnm1 : name < 256) :
    Calls Tryz.prog 5 #[.slice a n c, .int .i64 fr, .int .i64 tt, .int .u8 name] w fun e w' => e = .returned (.bool true) ∧ Keep w NoB w' := by
  have HR : Kp _ := ⟨hr⟩
  have HL : Kp _ := ⟨hl⟩
  have HW : Kp _ := ⟨hw⟩
  have HC : Kp _ := ⟨hc⟩
  have HCM : Kp _ := ⟨hcm⟩
  have hd : decide (300 < n ∨ 6000 < weigh xs ∨ 30 < 0) = false := by simp; omega
  clear hr hl hw hc hcm
  have hn0 : ¬ ((n : Int) = 0) := by omega
  go_enter Tryz.func5, Tryz.ntmps5
  go_wp2_with fail
  refine (heavy_calls HR.out (by omega) (by have := HW.out; omega)).mono ?_
  rintro e w' ⟨rfl, rfl⟩
  rw [hd]
  clear hd
  go_wp2_with ((with_reducible refine (known_calls _).mono ?_)
               rintro e w1 ⟨rfl, hb⟩
               have HB : Kp _ := ⟨Keep.of_below hb NoB⟩
               clear hb)
  refine (new_buf (HR.out.keep HB.out fun _ _ h => h) (by omega) HC.out HCM.out HL.out (by omega) (by omega)).mono ?_
  rintro e w2 ⟨bb, S, F, FS, rfl, b2, l2, a2, m2, o2, -, -, f2, -, k2⟩
  have K2 : Kp (Keep w NoB w2) := ⟨HB.out.trans k2 (Fresh.refl _ _)⟩
  have B2 : Kp _ := ⟨b2⟩
  have F2 : Kp (∀ b, F b → w.heap.size ≤ b) := ⟨fun b hb => Nat.le_trans HB.out.size (f2 b hb)⟩
  have L2 : Kp _ := ⟨l2⟩
  clear b2 l2 a2 m2 o2 f2 k2
  go_wp2_with fail
  refine (new_regs w2).mono ?_
  rintro e w3 ⟨rb, G, rfl, r3, k3, f3⟩
  have K3 : Kp (Keep w NoB w3) := ⟨K2.out.trans k3 (Fresh.refl _ _)⟩
  have B3 : Kp _ := ⟨B2.out.keep k3 fun _ _ h => h⟩
  have R3 : Kp _ := ⟨r3⟩
  have D3 : Kp (Dis F G) := ⟨fun b hF hG => by have := B2.out.lt b hF; have := f3 b hG; omega⟩
  have G3 : Kp (∀ b, G b → w.heap.size ≤ b) := ⟨fun b hb => Nat.le_trans K2.out.size (f3 b hb)⟩
  clear r3 k3 f3
  obtain ⟨i, hi⟩ : ∃ i : Nat, max fr 0 % (n : Int) = (i : Int) := ⟨(max fr 0 % (n : Int)).toNat, by have := Int.emod_nonneg (max fr 0) (b := (n : Int)) (by omega); omega⟩
  have hi2 : (i : Int) < (n : Int) := by rw [← hi]; exact Int.emod_lt_of_pos _ (by omega)
  have hib : max fr 0 % (n : Int) < 1000 := by omega
  have hib0 : 0 ≤ max fr 0 % (n : Int) := by omega
  have hmd : 0 < (n : Int) - (1 + max fr 0 % (n : Int)) + 1 := by omega
  have hmd0 : ¬ ((n : Int) - (1 + max fr 0 % (n : Int)) + 1 = 0) := by omega
  obtain ⟨m, hm⟩ : ∃ m : Nat, max tt 0 % ((n : Int) - (1 + max fr 0 % (n : Int)) + 1) = (m : Int) := ⟨(max tt 0 % ((n : Int) - (1 + max fr 0 % (n : Int)) + 1)).toNat, by have := Int.emod_nonneg (max tt 0) hmd0; omega⟩
  have hm2 : (m : Int) < (n : Int) - (1 + max fr 0 % (n : Int)) + 1 := by rw [← hm]; exact Int.emod_lt_of_pos _ hmd
  have hmb : max tt 0 % ((n : Int) - (1 + max fr 0 % (n : Int)) + 1) < 1000 := by omega
  have hmb0 : 0 ≤ max tt 0 % ((n : Int) - (1 + max fr 0 % (n : Int)) + 1) := by omega
  have HFR : Kp (1 + max fr 0 % (n : Int) = (i : Int) + 1) := ⟨by omega⟩
  have HTO : Kp (1 + max fr 0 % (n : Int) + max tt 0 % ((n : Int) - (1 + max fr 0 % (n : Int)) + 1) = (i : Int) + ((m + 1 : Nat) : Int)) := ⟨by omega⟩
  have HIM : Kp (i + (m + 1) ≤ n) := ⟨by omega⟩
  clear hi hi2 hm hm2 hmd
  go_wp2_with fail
  have hxl : xs.length = n := by have := HR.out.len; rw [vstr_length, Nat.mul_one] at this; exact this
  have hbg : S.lines = xs := L2.out.trans (if_neg fun e => by rw [e] at hxl; simp at hxl; omega)
  have hnr : rng 65 90 (97 + name % 26) = false := by
    cases h : rng 65 90 (97 + name % 26) with
    | false => rfl
    | true => have := rng_iff.1 h; omega
  have hkn : knownReg (97 + name % 26) = true := by
    have : rng 97 122 (97 + name % 26) = true := rng_iff.2 (by omega)
    simp [knownReg, this]
  have hwt : weigh ((xs.drop i).take (m + 1)) ≤ 20000 := by
    have h1 := weigh_take (xs.drop i) (m + 1)
    have h2 := weigh_append (xs.take i) (xs.drop i)
    rw [List.take_append_drop] at h2
    have := HW.out
    omega
  have HXL : Kp _ := ⟨hxl⟩
  have HBG : Kp _ := ⟨hbg⟩
  have HNR : Kp _ := ⟨hnr⟩
  have HKN : Kp _ := ⟨hkn⟩
  have HWT : Kp _ := ⟨hwt⟩
  clear hxl hbg hnr hkn hwt
  refine (do_y HFR.out HTO.out B3.out (by rw [HBG.out, HXL.out]; exact HIM.out) (by rw [HBG.out, HXL.out]; omega) R3.out (by omega) (if_neg (by omega)) (by omega) (by omega) HKN.out (by omega) HNR.out (by rw [HBG.out]; exact HWT.out)).mono ?_
  rintro e w4 ⟨G4, rfl, r4, k4, f4⟩
  have R4 : Kp _ := ⟨r4⟩
  have B4 : Kp _ := ⟨B3.out.keep k4 D3.out⟩
  have K4 : Kp (Keep w NoB w4) := ⟨K3.out.trans k4 fun b hb => .inr (G3.out b hb)⟩
  have D4 : Kp (Dis F G4) := ⟨fun b hF hG => (f4 b hG).elim (fun h => D3.out b hF h) fun h => by have := B3.out.lt b hF; omega⟩
  have G4' : Kp (∀ b, G4 b → w.heap.size ≤ b) := ⟨fun b hb => (f4 b hb).elim (fun h => G3.out b h) fun h => Nat.le_trans K3.out.size h⟩
  clear r4 k4 f4
  go_wp2_with fail
  refine (do_p HFR.out HTO.out B4.out (by rw [HBG.out, HXL.out]; exact HIM.out) (by rw [HBG.out, HXL.out]; omega) (by omega)).mono ?_
  rintro e w5 ⟨pa, pc, pb, rfl, s5, b5, k5, f5⟩
  have S5 : Kp _ := ⟨s5⟩
  have B5 : Kp _ := ⟨b5⟩
  have R5 : Kp _ := ⟨R4.out.keep k5 D4.out.symm⟩
  have K5 : Kp (Keep w NoB w5) := ⟨K4.out.trans k5 fun b hb => .inr (F2.out b hb)⟩
  clear s5 b5 k5 f5
  have hget : yankF (fun _ => none) (97 + name % 26) ((S.lines.drop i).take (m + 1), true) (97 + name % 26) = some ((S.lines.drop i).take (m + 1), true) := by
    unfold yankF
    rw [if_neg (by omega)]
    unfold fput
    rw [if_neg (by omega), if_pos rfl]
  have hlen : ((S.lines.drop i).take (m + 1)).length = m + 1 := by rw [List.length_take, List.length_drop, HBG.out, HXL.out]; have := HIM.out; omega
  have r5 := R5.out
  have s5 := S5.out
  obtain ⟨ys, hys⟩ : ∃ ys, (S.lines.drop i).take (m + 1) = ys := ⟨_, rfl⟩
  rw [hys] at hget hlen r5 s5
  have HYS : Kp (ys = (xs.drop i).take (m + 1)) := ⟨by rw [← hys, HBG.out]⟩
  clear R5 S5 hys
  have R5 : Kp _ := ⟨r5⟩
  have S5 : Kp _ := ⟨s5⟩
  have HGET : Kp _ := ⟨hget⟩
  have HLEN : Kp _ := ⟨hlen⟩
  clear hget hlen r5 s5
  go_wp2_with fail
  refine (get_ok R5.out (by omega) (by omega) HKN.out HNR.out HGET.out).mono ?_
  rintro e w6 ⟨ga, gc, gb, rfl, s6, k6, f6⟩
  simp only [HLEN.out] at s6 ⊢
  have S6 : Kp _ := ⟨s6⟩
  have S5' : Kp _ := ⟨S5.out.keep k6 fun _ _ h => h⟩
  have B6 : Kp _ := ⟨B5.out.keep k6 fun _ _ h => h⟩
  have K6 : Kp (Keep w NoB w6) := ⟨K5.out.trans k6 (Fresh.refl _ _)⟩
  clear s6 k6 f6
  rw [HTO.out, HFR.out]
  go_wp2_with fail
  have hx1 : (w6.alloc (.cells #[.slice ga (m + 1) gc, .bool true] 54)).heap[w6.heap.size]? = some (.cells #[.slice ga (m + 1) gc, .bool true] 54 (0, 0)) := heap_alloc_new w6 _
  have hK7 : Keep w6 NoB (w6.alloc (.cells #[.slice ga (m + 1) gc, .bool true] 54)) := (Keep.refl w6 NoB).alloc _
  generalize (w6.alloc (.cells #[.slice ga (m + 1) gc, .bool true] 54)) = V at *
  obtain ⟨tb, kb, oa, on, oc, -, e0, -, -, e7, -, ⟨FT, hT, -, -⟩, -⟩ := (B6.out.keep hK7 fun _ _ h => h).cells
  have c20 : V.cell? ⟨w6.heap.size, 0, none⟩ = some (.slice ga (m + 1) gc) := by rw [cell_blk hx1]; rfl
  have c21 : V.cell? ⟨w6.heap.size, 1, none⟩ = some (.bool true) := by rw [cell_blk hx1]; rfl
  have HTT : Kp _ := ⟨hT⟩
  have hgo : ∀ W, Keep V NoB W → Keep V NoB W ∧ W.cell? ⟨w6.heap.size, 0, none⟩ = some (.slice ga (m + 1) gc) ∧ W.cell? ⟨w6.heap.size, 1, none⟩ = some (.bool true) ∧ W.cell? ⟨bb, 0, none⟩ = some (.pointer (some ⟨tb, 0, none⟩)) :=
    fun W h => ⟨h, h.cell c20 fun h => h, h.cell c21 fun h => h, h.cell e0 fun h => h⟩
  have HGO : Kp _ := ⟨hgo⟩
  have S7 : Kp _ := ⟨S6.out.keep hK7 fun _ _ h => h⟩
  have P7 : Kp _ := ⟨S5'.out.keep hK7 fun _ _ h => h⟩
  have B7 : Kp _ := ⟨B6.out.keep hK7 fun _ _ h => h⟩
  have K7 : Kp (Keep w NoB V) := ⟨K6.out.trans hK7 (Fresh.refl _ _)⟩
  obtain ⟨ad, hae, hsub⟩ := rd_sub (HR.out.keep K7.out fun _ _ h => h) i (m + 1) HIM.out h0
  subst hae
  have HSUB : Kp _ := ⟨hsub⟩
  have hwr : IntKind.i64.wrap ((i : Int) + 1 - 1) = (i : Int) := by rw [show (i : Int) + 1 - 1 = (i : Int) by omega]; exact IntWalk.i64_in _ (by have := HIM.out; omega)
  clear hx1 hK7 hT e0 e7 c20 c21 hgo hsub
  refine wp_region_pl (fun W => Keep V NoB W ∧ W.cell? ⟨w6.heap.size, 0, none⟩ = some (.slice ga (m + 1) gc) ∧ W.cell? ⟨w6.heap.size, 1, none⟩ = some (.bool true) ∧ W.cell? ⟨bb, 0, none⟩ = some (.pointer (some ⟨tb, 0, none⟩)))
    (.run 0 18 (.ac 18 (.run 19 8 (.ac 27 (.run 28 6 (.rd 35 (.ac 34 (.ac 36 (.run 37 3 (.rd 41 (.ac 40 (.run 42 2 (.ac 44 .done))))))))))))) 45 (by kernel_rfl) (by kernel_rfl) (fun _ _ d _ _ h => by cases d <;> exact h) (HGO.out _ (Keep.refl V NoB).drew) ?_
  iterate 16
    (refine' pl_read _ rfl rfl ?_ ?_
     rotate_left
     · (intro W' hW'; (try dsimp only at hW'); obtain ⟨-, q0, q1, q2⟩ := hW'; go_simp; try rfl)
     simp only [Act.put, List.setIfInBounds_toArray, List.set_cons_zero, List.set_cons_succ])
  have hwr2 : IntKind.i64.wrap (i : Int) = (i : Int) := IntWalk.i64_in _ (by have := HIM.out; omega)
  have hsl : ∀ W, (Instr.slice 22 (.slice (some ad) n c) (some (.int .i64 (i : Int))) (some (.int .i64 ((i : Int) + ((m : Int) + 1)))) none).run Tryz.prog W = .ok (.slice (some (ad.add i)) (m + 1) (c - i)) W :=
    fun W => slice_str ad (n := n) HIM.out HC.out (by have := HIM.out; have := HC.out; omega) W rfl (by omega)
  refine' pl_read (v := .slice (some (ad.add i)) (m + 1) (c - i)) _ rfl rfl ?_ ?_
  · intro W' hW'
    clear hW'
    have hs := hsl W'
    go_simp
    try rfl
  simp only [Act.put, List.setIfInBounds_toArray, List.set_cons_zero, List.set_cons_succ]
  iterate 1
    (refine' pl_read _ rfl rfl ?_ ?_
     rotate_left
     · (intro W' hW'; (try dsimp only at hW'); go_simp; try rfl)
     simp only [Act.put, List.setIfInBounds_toArray, List.set_cons_zero, List.set_cons_succ])
  refine pl_do _ rfl ?_
  go_wp2_with fail
  refine (same_reg (Rd.of_sl (S7.out.keep (Keep.refl V NoB).drew fun _ _ h => h) (vstr_one _)) (HSUB.out.keep (Keep.refl V NoB).drew fun _ _ h => h) (by have := HIM.out; omega)).mono ?_
  rintro e w8 ⟨rfl, k8⟩
  rw [show regSame ys ((xs.drop i).take (m + 1)) true true = true by rw [← HYS.out]; exact regSame_self _ _]
  have K8 : Kp (Keep V NoB w8) := ⟨(Keep.refl V NoB).drew.trans k8 (Fresh.refl _ _)⟩
  clear k8
  go_wp2_with fail
  refine ⟨HGO.out _ K8.out, ?_⟩
  iterate 7
    (refine' pl_read _ rfl rfl ?_ ?_
     rotate_left
     · (intro W' hW'; (try dsimp only at hW'); obtain ⟨-, q0, q1, q2⟩ := hW'; go_simp; try rfl)
     simp only [Act.put, List.setIfInBounds_toArray, List.set_cons_zero, List.set_cons_succ])
  refine' pl_read (v := .slice (some (ad.add i)) (m + 1) (c - i)) _ rfl rfl ?_ ?_
  · intro W' hW'
    clear hW'
    have hs := hsl W'
    go_simp
    try rfl
  simp only [Act.put, List.setIfInBounds_toArray, List.set_cons_zero, List.set_cons_succ]
  clear hsl hwr hwr2
  refine pl_do _ rfl ?_
  go_wp2_with fail
  refine (same_calls (Rd.of_sl (P7.out.keep K8.out fun _ _ h => h) (vstr_one _)) (HSUB.out.keep K8.out fun _ _ h => h) (by have := HIM.out; omega)).mono ?_
  rintro e w9 ⟨rfl, q9, rfl⟩
  rw [show decide (ys = (xs.drop i).take (m + 1)) = true from decide_eq_true HYS.out]
  have K9 : Kp (Keep V NoB (w8.drewN q9)) := ⟨K8.out.drewN q9⟩
  generalize w8.drewN q9 = w9 at *
  go_wp2_with fail
  refine ⟨HGO.out _ K9.out, ?_⟩
  iterate 7
    (refine' pl_read _ rfl rfl ?_ ?_
     rotate_left
     · (intro W' hW'; (try dsimp only at hW'); obtain ⟨-, q0, q1, q2⟩ := hW'; go_simp; try rfl)
     simp only [Act.put, List.setIfInBounds_toArray, List.set_cons_zero, List.set_cons_succ])
  refine pl_do _ rfl ?_
  go_wp2_with fail
  refine (lines_text (HTT.out.keep K9.out fun _ _ h => h)).mono ?_
  rintro e w10 ⟨la, lc, lb, rfl, s10, k10, f10⟩
  have S10 : Kp _ := ⟨s10⟩
  have K10 : Kp (Keep V NoB w10) := ⟨K9.out.trans k10 (Fresh.refl _ _)⟩
  clear s10 k10 f10
  go_wp2_with fail
  refine ⟨HGO.out _ K10.out, ?_⟩
  refine pl_do _ rfl ?_
  go_wp2_with fail
  refine (same_calls (Rd.of_sl S10.out (vstr_one _)) (HR.out.keep (K7.out.trans K10.out (Fresh.refl _ _)) fun _ _ h => h) (by rw [HBG.out, HXL.out]; omega)).mono ?_
  rintro e w11 ⟨rfl, q11, rfl⟩
  rw [show decide (S.lines = xs) = true from decide_eq_true HBG.out]
  have K11 : Kp (Keep V NoB (w10.drewN q11)) := ⟨K10.out.drewN q11⟩
  generalize w10.drewN q11 = w11 at *
  go_wp2_with fail
  refine ⟨HGO.out _ K11.out, ?_⟩
  iterate 4
    (refine' pl_read _ rfl rfl ?_ ?_
     rotate_left
     · (intro W' hW'; (try dsimp only at hW'); obtain ⟨-, q0, q1, q2⟩ := hW'; go_simp; try rfl)
     simp only [Act.put, List.setIfInBounds_toArray, List.set_cons_zero, List.set_cons_succ])
  refine pl_do _ rfl ?_
  go_wp2_with fail
  refine (cursor_buf (B7.out.keep K11.out fun _ _ h => h)).mono ?_
  rintro e w12 ⟨rfl, rfl⟩
  go_wp2_with fail
  refine ⟨HGO.out _ K11.out, ?_⟩
  iterate 2
    (refine' pl_read _ rfl rfl ?_ ?_
     rotate_left
     · (intro W' hW'; (try dsimp only at hW'); obtain ⟨-, q0, q1, q2⟩ := hW'; go_simp; try rfl)
     simp only [Act.put, List.setIfInBounds_toArray, List.set_cons_zero, List.set_cons_succ])
  refine pl_do _ rfl ?_
  go_wp2_with fail
  refine ⟨HGO.out _ K11.out, ?_⟩
  refine pl_end ?_
  simp only [List.drop_succ_cons, List.drop_nil]
  go_wp2_with fail
  go_ret
  exact ⟨by first | rfl | (simp; have := HTO.out; omega), K7.out.trans K11.out (Fresh.refl _ _)⟩

/-- EditYanks is true. -/
theorem yanks_calls {w : World} {a : Option Addr} {n c : Nat} {xs : List ByteArray} (hr : Rd w 1 a n (vstr xs)) (hc : n ≤ c) (hcm : c ≤ 9223372036854775807) (hn : n ≤ 1048576) (hw : weigh xs ≤ 9000000) (fr tt name : Int) (hnm0 : 0 ≤ name) (hnm1 : name < 256) :
    Calls Tryz.prog 5 #[.slice a n c, .int .i64 fr, .int .i64 tt, .int .u8 name] w fun e w' => e = .returned (.bool true) ∧ Keep w NoB w' := by
  by_cases h : (300 < n ∨ 6000 < weigh xs) ∨ n = 0
  · exact yanks_known hr (by omega) (by omega) fr tt name h
  · have h1 : 0 < n := by omega
    have h2 : n ≤ 300 := by omega
    have h3 : weigh xs ≤ 6000 := by omega
    cases hl : isLong xs with
    | true => exact yanks_long hr h1 h2 h3 hl fr tt name
    | false => exact yanks_ok hr hc hcm h1 h2 h3 hl fr tt name hnm0 hnm1

end Go.Proofs

/- The walk of the law EditJoinsAll. -/
namespace Go.Proofs
open Go.RowKit Go.Em

set_option maxRecDepth 100000 in
set_option maxHeartbeats 2000000 in
theorem joins_known {w : World} {a : Option Addr} {n c : Nat} {xs : List ByteArray} (hr : Rd w 1 a n (vstr xs)) (hn : n < 9223372036854775807) (hw : weigh xs < 9223372036854775807) (fr tt : Int) (bold : Bool) (h : (300 < n ∨ 6000 < weigh xs) ∨ n < 2) :
    Calls Tryz.prog 4 #[.slice a n c, .int .i64 fr, .int .i64 tt, .bool bold] w fun e w' => e = .returned (.bool true) ∧ Keep w NoB w' := by
  have HR : Kp _ := ⟨hr⟩
  clear hr
  by_cases hh : 300 < n ∨ 6000 < weigh xs
  · have hd : decide (300 < n ∨ 6000 < weigh xs ∨ 30 < 0) = true := by simpa [or_assoc] using hh
    clear h hh
    go_enter Tryz.func4, Tryz.ntmps4
    go_wp2_with fail
    refine (heavy_calls HR.out hn hw).mono ?_
    rintro e w' ⟨rfl, rfl⟩
    rw [hd]
    go_wp2_with ((with_reducible refine (known_calls _).mono ?_)
                 rintro e w' ⟨rfl, hb⟩
                 have HB : Kp _ := ⟨hb⟩
                 clear hb)
    go_ret
    exact ⟨rfl, Keep.of_below HB.out _⟩
  · have h0 : (n : Int) < 2 := by omega
    have hd : decide (300 < n ∨ 6000 < weigh xs ∨ 30 < 0) = false := by simp; omega
    clear h hh
    go_enter Tryz.func4, Tryz.ntmps4
    go_wp2_with fail
    refine (heavy_calls HR.out hn hw).mono ?_
    rintro e w' ⟨rfl, rfl⟩
    rw [hd]
    go_wp2_with ((with_reducible refine (known_calls _).mono ?_)
                 rintro e w' ⟨rfl, hb⟩
                 have HB : Kp _ := ⟨hb⟩
                 clear hb)
    go_ret
    exact ⟨rfl, Keep.of_below HB.out _⟩

set_option maxRecDepth 100000 in
set_option maxHeartbeats 2000000 in
theorem joins_long {w : World} {a : Option Addr} {n c : Nat} {xs : List ByteArray} (hr : Rd w 1 a n (vstr xs)) (h0 : 2 ≤ n) (hn : n ≤ 300) (hw : weigh xs ≤ 6000) (hl : isLong xs = true) (fr tt : Int) (bold : Bool) :
    Calls Tryz.prog 4 #[.slice a n c, .int .i64 fr, .int .i64 tt, .bool bold] w fun e w' => e = .returned (.bool true) ∧ Keep w NoB w' := by
  have HR : Kp _ := ⟨hr⟩
  have HL : Kp _ := ⟨hl⟩
  clear hr hl
  have hd : decide (300 < n ∨ 6000 < weigh xs ∨ 30 < 0) = false := by simp; omega
  have hn0 : ¬ ((n : Int) < 2) := by omega
  go_enter Tryz.func4, Tryz.ntmps4
  go_wp2_with fail
  refine (heavy_calls HR.out (by omega) (by omega)).mono ?_
  rintro e w' ⟨rfl, rfl⟩
  rw [hd]
  clear hw
  go_wp2_with ((with_reducible refine (known_calls _).mono ?_)
               rintro e w1 ⟨rfl, hb⟩
               have HB : Kp _ := ⟨Keep.of_below hb NoB⟩
               clear hb)
  refine (new_buf_long (HR.out.keep HB.out fun _ _ h => h) (by omega) HL.out (by omega) (by omega)).mono ?_
  rintro e w2 ⟨rfl, k2⟩
  have K2 : Kp (Keep w NoB w2) := ⟨HB.out.trans k2 (Fresh.refl _ _)⟩
  clear k2
  go_wp2_with fail
  refine (new_regs w2).mono ?_
  rintro e w3 ⟨rb, G, rfl, r3, k3, f3⟩
  have K3 : Kp (Keep w NoB w3) := ⟨K2.out.trans k3 (Fresh.refl _ _)⟩
  clear r3 k3 f3
  go_wp2_with fail
  go_ret
  exact ⟨rfl, K3.out⟩

theorem TextPost.pre {w W w' : World} {bb : Nat} {S : BS} {F : Blocks} {l : List ByteArray} {at_ : Int} (hK : Keep w NoB W) (h : TextPost W bb S F l at_ w') : TextPost w bb S F l at_ w' := by
  obtain ⟨S2, ⟨F2, b2, k2, f2⟩, q⟩ := h
  exact ⟨S2, ⟨F2, b2, (hK.mono fun _ h => h.elim).trans k2 (Fresh.refl _ _), fun b hb => (f2 b hb).imp id fun h => Nat.le_trans hK.size h⟩, q⟩
/-- What stands behind Do at j. -/
def JPost (w : World) (bb : Nat) (S : BS) (F : Blocks) (i n : Nat) (bold : Bool) (x : ByteArray) (l : List ByteArray) (e : Ending) (w' : World) : Prop :=
  (isLong [joinAll bold x l] = true ∧ e = .returned (.int .u16 90) ∧ Keep w NoB w') ∨
  (isLong [joinAll bold x l] = false ∧ e = .returned (.int .u16 0) ∧ TextPost w bb S F (S.lines.take i ++ [joinAll bold x l] ++ S.lines.drop (i + n)) ((i : Int) + 1) w')

set_option maxRecDepth 100000 in
set_option maxHeartbeats 4000000 in
theorem joins_ok {w : World} {a : Option Addr} {n c : Nat} {xs : List ByteArray} (hr : Rd w 1 a n (vstr xs)) (hc : n ≤ c) (hcm : c ≤ 9223372036854775807) (h0 : 2 ≤ n) (hn : n ≤ 300) (hw : weigh xs ≤ 6000) (hl : isLong xs = false) (fr tt : Int) (bold : Bool) :
    Calls Tryz.prog 4 #[.slice a n c, .int .i64 fr, .int .i64 tt, .bool bold] w fun e w' => e = .returned (.bool true) ∧ Keep w NoB w' := by
  have HR : Kp _ := ⟨hr⟩
  have HL : Kp _ := ⟨hl⟩
  have HW : Kp _ := ⟨hw⟩
  have HC : Kp _ := ⟨hc⟩
  have HCM : Kp _ := ⟨hcm⟩
  have hd : decide (300 < n ∨ 6000 < weigh xs ∨ 30 < 0) = false := by simp; omega
  clear hr hl hw hc hcm
  have hn0 : ¬ ((n : Int) < 2) := by omega
  go_enter Tryz.func4, Tryz.ntmps4
  go_wp2_with fail
  refine (heavy_calls HR.out (by omega) (by have := HW.out; omega)).mono ?_
  rintro e w' ⟨rfl, rfl⟩
  rw [hd]
  clear hd
  go_wp2_with ((with_reducible refine (known_calls _).mono ?_)
               rintro e w1 ⟨rfl, hb⟩
               have HB : Kp _ := ⟨Keep.of_below hb NoB⟩
               clear hb)
  refine (new_buf (HR.out.keep HB.out fun _ _ h => h) (by omega) HC.out HCM.out HL.out (by omega) (by omega)).mono ?_
  rintro e w2 ⟨bb, S, F, FS, rfl, b2, l2, a2, m2, o2, -, -, f2, -, k2⟩
  have K2 : Kp (Keep w NoB w2) := ⟨HB.out.trans k2 (Fresh.refl _ _)⟩
  have B2 : Kp _ := ⟨b2⟩
  have F2 : Kp (∀ b, F b → w.heap.size ≤ b) := ⟨fun b hb => Nat.le_trans HB.out.size (f2 b hb)⟩
  have L2 : Kp _ := ⟨l2⟩
  have M2 : Kp _ := ⟨m2⟩
  have O2 : Kp _ := ⟨o2⟩
  clear b2 l2 a2 m2 o2 f2 k2
  go_wp2_with fail
  refine (new_regs w2).mono ?_
  rintro e w3 ⟨rb, G, rfl, r3, k3, f3⟩
  have K3 : Kp (Keep w NoB w3) := ⟨K2.out.trans k3 (Fresh.refl _ _)⟩
  have B3 : Kp _ := ⟨B2.out.keep k3 fun _ _ h => h⟩
  clear r3 k3 f3
  have hmd1 : ¬ ((n : Int) - 1 = 0) := by omega
  obtain ⟨i, hi⟩ : ∃ i : Nat, max fr 0 % ((n : Int) - 1) = (i : Int) := ⟨(max fr 0 % ((n : Int) - 1)).toNat, by have := Int.emod_nonneg (max fr 0) hmd1; omega⟩
  have hi2 : (i : Int) < (n : Int) - 1 := by rw [← hi]; exact Int.emod_lt_of_pos _ (by omega)
  have hib : max fr 0 % ((n : Int) - 1) < 1000 := by omega
  have hib0 : 0 ≤ max fr 0 % ((n : Int) - 1) := by omega
  have hmd : 0 < (n : Int) - (1 + max fr 0 % ((n : Int) - 1)) := by omega
  have hmd0 : ¬ ((n : Int) - (1 + max fr 0 % ((n : Int) - 1)) = 0) := by omega
  obtain ⟨m, hm⟩ : ∃ m : Nat, max tt 0 % ((n : Int) - (1 + max fr 0 % ((n : Int) - 1))) = (m : Int) := ⟨(max tt 0 % ((n : Int) - (1 + max fr 0 % ((n : Int) - 1)))).toNat, by have := Int.emod_nonneg (max tt 0) hmd0; omega⟩
  have hm2 : (m : Int) < (n : Int) - (1 + max fr 0 % ((n : Int) - 1)) := by rw [← hm]; exact Int.emod_lt_of_pos _ hmd
  have hmb : max tt 0 % ((n : Int) - (1 + max fr 0 % ((n : Int) - 1))) < 1000 := by omega
  have hmb0 : 0 ≤ max tt 0 % ((n : Int) - (1 + max fr 0 % ((n : Int) - 1))) := by omega
  have HFR : Kp (1 + max fr 0 % ((n : Int) - 1) = (i : Int) + 1) := ⟨by omega⟩
  have HTO : Kp (1 + max fr 0 % ((n : Int) - 1) + 1 + max tt 0 % ((n : Int) - (1 + max fr 0 % ((n : Int) - 1))) = (i : Int) + ((m + 2 : Nat) : Int)) := ⟨by omega⟩
  have HIM : Kp (i + (m + 2) ≤ n) := ⟨by omega⟩
  clear hi hi2 hm hm2 hmd
  go_wp2_with fail
  rw [HTO.out, HFR.out]
  have hxl : xs.length = n := by have := HR.out.len; rw [vstr_length, Nat.mul_one] at this; exact this
  have hbg : S.lines = xs := L2.out.trans (if_neg fun e => by rw [e] at hxl; simp at hxl; omega)
  have hlen : ((xs.drop i).take (m + 2)).length = m + 2 := by rw [List.length_take, List.length_drop, hxl]; have := HIM.out; omega
  obtain ⟨x, l, hl⟩ : ∃ x l, (xs.drop i).take (m + 2) = x :: l := by
    cases h : (xs.drop i).take (m + 2) with
    | nil => rw [h] at hlen; simp at hlen
    | cons x l => exact ⟨x, l, rfl⟩
  have HXL : Kp _ := ⟨hxl⟩
  have HBG : Kp _ := ⟨hbg⟩
  have HLL : Kp _ := ⟨hl⟩
  clear hxl hbg hlen hl
  have hgv : Gives (JPost w3 bb S F i (m + 2) bold x l) := by
    rintro e w' (⟨_, h, _⟩ | ⟨_, h, _⟩)
    · exact ⟨90, h⟩
    · exact ⟨0, h⟩
  have hdo : Does w3 50 ⟨.slice none 0 0, ⟨#[106]⟩, bold, 0, -1, .slice none 0 0, .string ⟨#[]⟩, .string ⟨#[]⟩, .string ⟨#[]⟩, ⟨#[]⟩⟩ bb rb ((i : Int) + 1) ((i : Int) + ((m + 2 : Nat) : Int)) 0 (JPost w3 bb S F i (m + 2) bold x l) := by
    intro W wb hK hwb hWM
    have hxl := HXL.out
    have him := HIM.out
    refine (join_work hWM (B3.out.keep hK fun _ _ h => h) (fun h => by have := B3.out.lt _ h; omega) M2.out (by omega) (by rw [HBG.out, hxl]; exact him) (by rw [HBG.out, hxl]; omega) (by rw [O2.out]; simp) (by rw [HBG.out]; have := HW.out; omega) (by rw [HBG.out]; exact HLL.out)).mono ?_
    rintro e w' (⟨h1, h2, h3⟩ | ⟨h1, h2, h3⟩)
    · exact .inl ⟨h1, h2, hK.trans h3 (Fresh.refl _ _)⟩
    · exact .inr ⟨h1, h2, h3.pre hK⟩
  refine (do_of_j B3.out (by omega) (by omega) (by rw [HBG.out, HXL.out]; have := HIM.out; omega) (by rw [HBG.out, HXL.out]; omega) hgv hdo).mono ?_
  rintro e w4 ⟨v, hj, rfl⟩
  have HJ : Kp _ := ⟨hj⟩
  clear hj hgv hdo
  rcases HJ.out with ⟨j1, j2, j3⟩ | ⟨j1, j2, j3⟩
  · cases j2
    have K4 : Kp (Keep w NoB w4) := ⟨K3.out.trans j3 (Fresh.refl _ _)⟩
    have B4 : Kp _ := ⟨B3.out.keep j3 fun _ _ h => h⟩
    obtain ⟨tb, kb, oa, on, oc, -, c0, -, -, -, -, ⟨FT, hT, -, -⟩, -⟩ := B4.out.cells
    have HT : Kp _ := ⟨hT⟩
    clear j1 j3 hT
    go_wp2_with fail
    refine (lines_text HT.out).mono ?_
    rintro e w5 ⟨la, lc, lb, rfl, s5, k5, f5⟩
    have S5 : Kp _ := ⟨s5⟩
    have K5 : Kp (Keep w NoB w5) := ⟨K4.out.trans k5 (Fresh.refl _ _)⟩
    clear s5 k5 f5
    go_wp2_with fail
    refine (same_calls (Rd.of_sl S5.out (vstr_one _)) (HR.out.keep K5.out fun _ _ h => h) (by rw [HBG.out, HXL.out]; omega)).mono ?_
    rintro e w6 ⟨rfl, q6, rfl⟩
    rw [show decide (S.lines = xs) = true from decide_eq_true HBG.out]
    go_wp2_with fail
    go_ret
    exact ⟨by first | rfl | simp, K5.out.drewN q6⟩
  · cases j2
    obtain ⟨S4, ⟨F4, b4, k4, f4⟩, q1, q2, q3, q4⟩ := j3
    have B4 : Kp _ := ⟨b4⟩
    have K4 : Kp (Keep w NoB w4) := ⟨K3.out.trans (k4.mono (G := F) fun _ h => h) fun b hb => .inr (F2.out b hb)⟩
    have Q1 : Kp _ := ⟨q1⟩
    have Q2 : Kp _ := ⟨q2⟩
    clear j1 b4 k4 f4 q1 q2 q3 q4
    go_wp2_with fail
    generalize hsx : joinAll bold x l = sx at *
    have HSX : Kp _ := ⟨hsx⟩
    have hll : S4.lines = xs.take i ++ [sx] ++ xs.drop (i + (m + 2)) := by rw [Q1.out, HBG.out]
    have hgl : S4.lines[i]? = some sx := by
      rw [hll, List.append_assoc, List.getElem?_append_right (by rw [List.length_take]; omega)]
      simp [List.length_take, HXL.out]
      have := HIM.out
      rw [show i - min i n = 0 by omega]
      simp
    have hln : (S4.lines.length : Int) = (n : Int) - ((m : Int) + 1) := by
      have h1 := HXL.out
      have h2 := HIM.out
      rw [hll]
      simp
      omega
    have HGL : Kp _ := ⟨hgl⟩
    have HLN : Kp _ := ⟨hln⟩
    have hszx : sx.size ≤ 1000000 ∧ weigh ((xs.drop i).take (m + 2)) ≤ 6000 := by
      have h4 : weigh ((xs.drop i).take (m + 2)) ≤ weigh xs := by
        have q1 := weigh_take (xs.drop i) (m + 2)
        have q2 := weigh_append (xs.take i) (xs.drop i)
        rw [List.take_append_drop] at q2
        omega
      have h5 := HW.out
      refine ⟨?_, by omega⟩
      rw [HLL.out] at h4
      have h1 := joinAll_size bold l x
      have h3 : weigh (x :: l) = (x.size + 1) + weigh l := by simp [weigh]
      rw [← hsx]
      omega
    have HSZX : Kp _ := ⟨hszx⟩
    clear hsx hll hgl hln hszx
    refine (line_buf B4.out HGL.out).mono ?_
    rintro e w5 ⟨rfl, q5, rfl⟩
    have K5 : Kp (Keep w NoB (w4.drewN q5)) := ⟨K4.out.drewN q5⟩
    have B5 : Kp _ := ⟨B4.out.keep ((Keep.refl w4 NoB).drewN q5) fun _ _ h => h⟩
    generalize w4.drewN q5 = w5 at *
    go_wp2_with fail
    go_loopw [20, 19] (fun k v wr => ∃ j : Nat, j ≤ m + 2 ∧ k = .int .i64 ((i : Int) + (j : Int) + 1) ∧ v = .string (catAll ⟨#[]⟩ ((xs.drop i).take j)) ∧ w5 = wr) (fun k _ _ => i + m + 3 - (intOf k).toNat)
    case atStart => exact ⟨0, Nat.zero_le _, by go_num, rfl, rfl⟩
    case round =>
      obtain ⟨j, hj, rfl, rfl, rfl⟩ := hrel
      have hib2 : (i : Int) < 1000 := by have := HIM.out; omega
      by_cases hlt : j < m + 2
      · obtain ⟨y, hy⟩ : ∃ y, xs[i + j]? = some y := ⟨_, List.getElem?_eq_getElem (by have := HIM.out; have := HXL.out; omega)⟩
        have hyd : (xs.drop i)[j]? = some y := by rw [List.getElem?_drop]; exact hy
        have HNX : Kp _ := ⟨catAll_next ⟨#[]⟩ y (xs.drop i) hyd⟩
        obtain ⟨ad, hae, hc1⟩ := (HR.out.keep K5.out fun _ _ h => h).cells (i + j) _ (vstr_get hy)
        subst hae
        have hsz : (catAll ⟨#[]⟩ ((xs.drop i).take j)).size ≤ 1000000 ∧ y.size ≤ 1000000 := by
          have h1 := catAll_size ((xs.drop i).take (j + 1)) ⟨#[]⟩
          have h2 : weigh ((xs.drop i).take (j + 1)) ≤ weigh xs := by
            have q1 := weigh_take (xs.drop i) (j + 1)
            have q2 := weigh_append (xs.take i) (xs.drop i)
            rw [List.take_append_drop] at q2
            omega
          have h3 := HW.out
          have h4 : (⟨#[]⟩ : ByteArray).size = 0 := rfl
          rw [HNX.out, ByteArray.size_append, h4] at h1
          omega
        have hs1 := hsz.1
        have hs2 := hsz.2
        have hjn : (j : Int) < (m : Int) + 2 := by omega
        have hij : (i : Int) + (j : Int) < (n : Int) := by have := HIM.out; omega
        clear hy hyd hsz
        go_wp2_with fail
        go_roundw
        case rel => exact ⟨j + 1, by omega, by go_num, by rw [HNX.out], by first | rfl | trivial⟩
        case measure => simp [intOf]; omega
      · have hje : j = m + 2 := by omega
        subst hje
        have hbr : bareP sx = bareP (catAll ⟨#[]⟩ ((xs.drop i).take (m + 2))) := by
          rw [HLL.out, ← HSX.out]
          show (⟨(bareL (joinAll bold x l).data.toList).toArray⟩ : ByteArray) = ⟨(bareL (catAll (⟨#[]⟩ ++ x) l).data.toList).toArray⟩
          rw [empty_app, bare_all bold l x x rfl]
        have hbd : bold = true → sx = catAll ⟨#[]⟩ ((xs.drop i).take (m + 2)) := by
          intro hb
          rw [HLL.out, ← HSX.out, hb, join_bold]
          show catAll x l = catAll (⟨#[]⟩ ++ x) l
          rw [empty_app]
        have hsz : (catAll ⟨#[]⟩ ((xs.drop i).take (m + 2))).size ≤ 1000000 := by
          have h1 := catAll_size ((xs.drop i).take (m + 2)) ⟨#[]⟩
          have h4 : (⟨#[]⟩ : ByteArray).size = 0 := rfl
          have h5 := HSZX.out.2
          omega
        generalize (catAll ⟨#[]⟩ ((xs.drop i).take (m + 2))) = al at *
        have HBR : Kp _ := ⟨hbr⟩
        have HBD : Kp _ := ⟨hbd⟩
        have HSA : Kp _ := ⟨hsz⟩
        have hji : ¬ ((i : Int) + ((m + 2 : Nat) : Int) + 1 ≤ (i : Int) + ((m + 2 : Nat) : Int)) := by omega
        clear hbr hbd hsz hlt
        obtain ⟨tb, kb, oa, on, oc, -, c0, -, -, -, -, ⟨FT, hT, -, -⟩, -⟩ := B5.out.cells
        have HT : Kp _ := ⟨hT⟩
        have hfin : bold = true ∨ bold = false := by cases bold <;> simp
        clear hT
        have hmb2 : (m : Int) < 1000 := by have := HIM.out; omega
        rcases hfin with hb | hb
        · obtain rfl : sx = al := HBD.out hb
          subst hb
          go_wp2_with fail
          refine (len_text HT.out).mono ?_
          rintro e w6 ⟨rfl, q6, rfl⟩
          rw [HLN.out]
          have K6 : Kp (Keep w NoB (w5.drewN q6)) := ⟨K5.out.drewN q6⟩
          have B6 : Kp _ := ⟨B5.out.keep ((Keep.refl w5 NoB).drewN q6) fun _ _ h => h⟩
          generalize w5.drewN q6 = w6 at *
          go_wp2_with fail
          refine (bare_calls sx w6 HSA.out).mono ?_
          rintro e w7 ⟨rfl, rfl⟩
          go_wp2_with fail
          refine (bare_calls sx w6 HSA.out).mono ?_
          rintro e w7 ⟨rfl, rfl⟩
          go_wp2_with fail
          refine (cursor_buf B6.out).mono ?_
          rintro e w7 ⟨rfl, rfl⟩
          rw [Q2.out]
          go_wp2_with fail
          go_ret
          exact ⟨by first | rfl | simp, K6.out⟩
        · subst hb
          go_wp2_with fail
          refine (len_text HT.out).mono ?_
          rintro e w6 ⟨rfl, q6, rfl⟩
          rw [HLN.out]
          have K6 : Kp (Keep w NoB (w5.drewN q6)) := ⟨K5.out.drewN q6⟩
          have B6 : Kp _ := ⟨B5.out.keep ((Keep.refl w5 NoB).drewN q6) fun _ _ h => h⟩
          generalize w5.drewN q6 = w6 at *
          go_wp2_with fail
          refine (bare_calls sx w6 HSZX.out.1).mono ?_
          rintro e w7 ⟨rfl, rfl⟩
          rw [HBR.out]
          go_wp2_with fail
          refine (bare_calls al w6 HSA.out).mono ?_
          rintro e w7 ⟨rfl, rfl⟩
          go_wp2_with fail
          refine (cursor_buf B6.out).mono ?_
          rintro e w7 ⟨rfl, rfl⟩
          rw [Q2.out]
          go_wp2_with fail
          go_ret
          exact ⟨by first | rfl | simp, K6.out⟩

/-- EditJoinsAll is true. -/
theorem joins_calls {w : World} {a : Option Addr} {n c : Nat} {xs : List ByteArray} (hr : Rd w 1 a n (vstr xs)) (hc : n ≤ c) (hcm : c ≤ 9223372036854775807) (hn : n ≤ 1048576) (hw : weigh xs ≤ 9000000) (fr tt : Int) (bold : Bool) :
    Calls Tryz.prog 4 #[.slice a n c, .int .i64 fr, .int .i64 tt, .bool bold] w fun e w' => e = .returned (.bool true) ∧ Keep w NoB w' := by
  by_cases h : (300 < n ∨ 6000 < weigh xs) ∨ n < 2
  · exact joins_known hr (by omega) (by omega) fr tt bold h
  · have h1 : 2 ≤ n := by omega
    have h2 : n ≤ 300 := by omega
    have h3 : weigh xs ≤ 6000 := by omega
    cases hl : isLong xs with
    | true => exact joins_long hr h1 h2 h3 hl fr tt bold
    | false => exact joins_ok hr hc hcm h1 h2 h3 hl fr tt bold

end Go.Proofs

/- EditJoinsAll: the law answers true at every input of bulk at most 1048576, and each argument reads afterwards as it read before. Its card: what the row lists of the library's tables is tied to the program's text by the given tie. -/
namespace Go.Proofs.YtajpgjbepebcmaaGreatDoor.editJoinsAll
open Go.RowKit Go.Em Go.ChangeShapes Go.WideShapes Go.ChangeAt
open Go.Proofs

set_option maxRecDepth 100000 in
theorem contract (H : Type) (enc : TypeId × Value → H) (W : World) (base : Nat) (args : Array Value) (ds gs : List (DataW H)) (before : List MemPlace)
    (hval : ∀ (j : Nat) t v, Tryz.f4.params[j]? = some t → args[j]? = some v → Value.okWide Tryz.prog W .any base t v)
    (hW : DataW.Whole enc Tryz.prog Tryz.f4.params.toList Rows.editJoinsAllSpec.vars false W args.toList ds gs before) (hk : Rows.uptoSmall H (ds ++ gs) = true) :
    Calls Tryz.prog 4 args W fun e W' => ∃ v, e = .returned v ∧ Rows.editJoinsAllSpec.post enc Tryz.prog Tryz.f4 false true false false W args v W' := by
  have hW' := hW
  obtain ⟨p, q, hA0, hV, rfl, hfz, hnd⟩ := hW
  have hA : DataW.TrodAll enc Tryz.prog W 0 (fun _ => true) true Tryz.f4.params.toList args.toList ds p := hA0
  rw [Tryz.params4] at hA hval
  obtain ⟨v0, vs0, d0, ds0, p0, q0, hargs, rfl, rfl, h0, r0⟩ := trodAll_cons hA
  obtain ⟨v1, vs1, d1, ds1, p1, q1, rfl, rfl, rfl, h1, r1⟩ := trodAll_cons r0
  obtain ⟨v2, vs2, d2, ds2, p2, q2, rfl, rfl, rfl, h2, r2⟩ := trodAll_cons r1
  obtain ⟨v3, vs3, d3, ds3, p3, q3, rfl, rfl, rfl, h3, r3⟩ := trodAll_cons r2
  obtain ⟨rfl, rfl, rfl⟩ := trodAll_nil r3
  obtain rfl : args = #[v0, v1, v2, v3] := by cases args; simp_all
  obtain ⟨rfl, rfl⟩ := trodVars_none hV
  obtain ⟨a, n, c, xs, rfl, hr, hc, hcm, hnb, hwb⟩ := lines_in (hval 0 22 v0 rfl rfl) h0
  obtain ⟨n1, rfl, rfl, rfl, -⟩ := open_int Tryz.underlying3 (hval 1 3 v1 rfl rfl) h1
  obtain ⟨n2, rfl, rfl, rfl, -⟩ := open_int Tryz.underlying3 (hval 2 3 v2 rfl rfl) h2
  obtain ⟨n3, rfl, rfl, rfl⟩ := open_bool Tryz.underlying4 (hval 3 4 v3 rfl rfl) h3
  have hbulk : Rows.uptoBulkAll ([d0, .lit (.int .i64 n1), .lit (.int .i64 n2), .lit (.bool n3)] ++ []) ≤ 1048576 := of_decide_eq_true hk
  simp only [List.append_nil, Rows.uptoBulkAll] at hbulk
  refine (joins_calls hr hc hcm (by omega) (by omega) n1 n2 n3).mono fun e W' ⟨he, hkp⟩ => ?_
  subst he
  exact ⟨_, rfl, law_post rfl rfl (by kernel_rfl) hW' rfl hkp.below⟩

theorem laid_met (os : Os) : laidMet Tryz.prog Rows.editJoinsAllUptoRow.laid ((laidWorld os).forCall (fun _ _ => 0) ⟨#[], #[.slice none 0 0, .int .i64 0, .int .i64 0, .bool false], []⟩).memory :=
  laidMet_of_run' 8 (by kernel_rfl) (by kernel_rfl)
theorem reads (os : Os) {H : Type} (enc : TypeId × Value → H) : ∃ places, DataW.whole enc Tryz.prog ((laidWorld os).forCall (fun _ _ => 0) ⟨#[], #[.slice none 0 0, .int .i64 0, .int .i64 0, .bool false], []⟩).memory Tryz.f4.params.toList Rows.editJoinsAllSpec.vars false (#[.slice none 0 0, .int .i64 0, .int .i64 0, .bool false] : Array Value).toList 8 = some ([.nil, .lit (.int .i64 0), .lit (.int .i64 0), .lit (.bool false)], [], places) :=
  ⟨[], by kernel_rfl⟩

set_option maxRecDepth 100000 in
theorem liftedUpto (os : Os) (started : os.Started) (H : Type) (enc : TypeId × Value → H) (F : Stop.Interp) :
    ReturnsInHanded {} Tryz.checked os 4 .any ((Rows.OpenSpec.upto Rows.editJoinsAllSpec).preRow enc Tryz.prog Tryz.f4 Rows.editJoinsAllUptoRow.domain false Rows.editJoinsAllUptoRow.laid) (((Rows.OpenSpec.upto Rows.editJoinsAllSpec).at F).post enc Tryz.prog Tryz.f4 false true false false) := by
  obtain ⟨places, hx⟩ := reads os enc
  refine returnsInHanded_of_row (C := Tryz.checked) (s := Rows.OpenSpec.upto Rows.editJoinsAllSpec) own started (by kernel_rfl) Tryz.func4
    (witness_row_at (enc := enc) (C := Tryz.checked) false (laidWorld os) #[.slice none 0 0, .int .i64 0, .int .i64 0, .bool false] rfl (by kernel_rfl) (by kernel_rfl) (by kernel_rfl)
      (OpenSpec.preRow_of_cond 8 hx (by kernel_rfl) (fun k hk => by cases hk; kernel_rfl) (by kernel_rfl) (laid_met os))) ?_
  intro W base args ds gs before hval hW _ hcond _ _ _ _
  exact contract H enc W base args ds gs before hval hW (hcond _ rfl)

theorem saidUpto : Rows.EditJoinsAllUptoSaid :=
  OpenClaim.holds_of_cond 4 Tryz.f4 rfl rfl rfl rfl rfl rfl rfl ⟨rfl, rfl, rfl, rfl, rfl⟩ rfl rfl rfl rfl rfl (by kernel_rfl) Tryz.func4 (by kernel_rfl)
    (of_decide_eq_true (by kernel_rfl)) (by unfold Func.isWrapper; first | (rw [if_pos (by decide +kernel)]; kernel_rfl) | (rw [if_neg (by decide +kernel)]; exact ⟨rfl, rfl⟩))
    (fun os started H enc _ F => by rw [OpenClaim.pre_eq_preRow]; exact liftedUpto os started H enc F)

/-- No parameter wants a stand-in; the program's own looks are off. -/
theorem plain (f : FuncId) (fn : Func) (hf : Tryz.pinned.checked.prog.funcNamed "emendator/emendatorlaw16.EditJoinsAll" = some f) (hfn : Tryz.pinned.checked.prog.funcs[f]? = some fn) :
    true = Tryz.pinned.checked.prog.looks [] ∧ ∀ (j : Nat) t, fn.params[j]? = some t → Tryz.pinned.checked.prog.wantsStandIn t = false := by
  obtain rfl : f = 4 := Option.some.inj ((show Tryz.prog.funcNamed "emendator/emendatorlaw16.EditJoinsAll" = some 4 by kernel_rfl).symm.trans hf) |>.symm
  obtain rfl : fn = Tryz.f4 := (Option.some.inj (Tryz.func4.symm.trans hfn)).symm
  refine ⟨by kernel_rfl, fun j t ht => ?_⟩
  have hall : Tryz.f4.params.toList.all (fun t => Tryz.prog.wantsStandIn t == false) = true := by kernel_rfl
  have := List.all_eq_true.1 hall t (by rw [← Array.mem_def]; exact Array.mem_of_getElem? ht)
  have h : Tryz.prog.wantsStandIn t = false := by simpa using this
  exact h

/-- THE CARD. -/
theorem cardUpto : Rows.EditJoinsAllUptoCardSaid :=
  Claim7.holds_tied_plain_at .later [] _ _ _ _ saidUpto (fun _ h => by cases h) (by kernel_rfl) (fun _ h => by cases h) editJoinsAllUpto_row_tie rfl ⟨rfl, rfl⟩ (by kernel_rfl) rfl plain (by kernel_rfl)

end Go.Proofs.YtajpgjbepebcmaaGreatDoor.editJoinsAll
#print axioms Go.Proofs.YtajpgjbepebcmaaGreatDoor.editJoinsAll.cardUpto
