/- The search for twins, the walk: twins.meet. Condition: the graph reads from memory; it is one of pairs. The word of a node, told digit by digit (a closure of pairs.Words), and the test of a way's pairs. Condition: the rule and the number of nodes lie in memory. append(s, x...) in a region that draws its order. Plain laws, no program. No condition. What an error must be that another package tells further: edenraw.Under. Condition: the value reads from memory. Is an error asked for: Err.Bad. No condition. The document's answers of chapters 03 and 04: edenref03.Bad, edenref04.Power, Size, Check, Small. Condition: lists read from memory. The document's overlap: edenref08.Fault, WordFault, Count, Nodes. Condition: the lists read from memory. A word's fault: edenref08.WordFault. Condition: the word reads from memory. -/
import Derived.Deep.RegionHeld3
import Derived.StillTailTactics
import Derived.Test.YtibplgpolmplpaaGreatDoorX2
import Derived.Test.YtibplgpolmplpaaGreatDoorX3
import Derived.Test.YtibplgpolmplpaaGreatDoorX12
import Derived.Test.YtibplgpolmplpaaGreatDoorX13
import Derived.Test.YtibplgpolmplpaaGreatDoorX14
namespace Go.Proofs.YtibplgpolmplpaaGreatDoor
open Go.RowKit RuleP MeetP

/-- The list of pairs of equal nodes. -/
def diagQ (N u : Nat) : List Nat := (List.range u).map fun u => u * N + u
theorem diagQ_snoc (N u : Nat) : diagQ N (u + 1) = diagQ N u ++ [u * N + u] := by
  unfold diagQ
  rw [List.range_succ, List.map_append]
  rfl
theorem diagQ_len (N u : Nat) : (diagQ N u).length = u := by simp [diagQ]
theorem ints_push (l : List Nat) (x : Nat) : (ints (l ++ [x])).map (Value.int .i64) = (ints l).map (Value.int .i64) ++ [.int .i64 (x : Int)] := by simp [ints]

def slLen : Value → Nat
  | .slice _ n _ => n
  | _ => 0
theorem back_len (came : List Int) : ∀ f v, (backTo came f v).length ≤ f
  | 0, _ => Nat.le_refl _
  | f + 1, v => by
    rw [backTo, List.length_cons]
    split
    · simp
    · have := back_len came f (came.getD v (-1)).toNat
      omega
theorem nat_at {w : World} {A : Option Addr} {n : Nat} {l : List Nat} (h : Sl w A n ((ints l).map (Value.int .i64))) {i : Nat} (hi : i < n) : ∃ ad v, A = some ad ∧ l[i]? = some v ∧ w.cell? (ad.add i) = some (.int .i64 ((v : Nat) : Int)) := by
  obtain ⟨ad, x, e, hx, hc⟩ := h.int_ hi
  rw [ints, List.getElem?_map] at hx
  cases hl : l[i]? with
  | none => rw [hl] at hx; cases hx
  | some v =>
    rw [hl] at hx
    obtain rfl := Option.some.inj hx
    exact ⟨ad, v, e, rfl, hc⟩
theorem getN_of {l : List Nat} {i v : Nat} (h : l[i]? = some v) : l.getD i 0 = v := by rw [List.getD_eq_getElem?_getD, h]; rfl

set_option maxRecDepth 100000 in
set_option maxHeartbeats 4000000 in
theorem meet_c (w : World) (A : Option Addr) (M c N : Nat) (g : List (List Nat)) (hg : ListAt w A M (g.map ints)) (hok : Ok N g) (hN : 1 ≤ N) (h4 : N ≤ 256) (hM : N * N = M) (hrow : ∀ l ∈ g, l.length ≤ 1000) :
    Calls Tryz.prog 56 #[.slice A M c] w fun e w' => ∃ (C : Option Addr) (cc : Nat), e = .returned (.slice C (meetF N g).length cc) ∧ w'.ownsRow w.heap.size 3 1 (.slice C (meetF N g).length cc) (meetF N g).length ((ints (meetF N g)).map (Value.int .i64)) ∧ Below w.heap.size w w' := by
  obtain ⟨mf, hmf⟩ : ∃ mf, meetF N g = mf := ⟨_, rfl⟩
  rw [hmf]
  have HMF := Lib.hid hmf
  clear hmf
  have hM1 : 1 ≤ M := by rw [← hM]; exact Nat.mul_pos hN hN
  have hM6 : M ≤ 65536 := by rw [← hM]; exact Nat.le_trans (Nat.mul_le_mul h4 h4) (by decide)
  have hgl : g.length = M := by rw [hok.len, hM]
  have HND := Lib.hid (twinNodes_c w N M hN h4 hM)
  have hbx := (Below.refl w.heap.size w).alloc (Nat.le_refl _) (.cells #[.int .i64 (-1)] 3)
  have hlit := Sl.of_own (World.ownsRow_lit (base := w.heap.size) (e := 3) (size := 1) w #[.int .i64 (-1)] 1 (Nat.le_refl _) (by decide) (by simp))
  obtain ⟨w1, hw1⟩ : ∃ w1, w.alloc (.cells #[.int .i64 (-1)] 3) = w1 := ⟨_, rfl⟩
  rw [hw1] at hbx hlit
  have HRP := Lib.hid (repeat_c w1 (some ⟨w.heap.size, 0, none⟩) 1 (-1) hlit M hM1 (by omega))
  have HW1 := Lib.hid hw1
  have HB1 := Lib.hid hbx
  have HG := Lib.hid hg
  have HOK := Lib.hid hok
  have HGL := Lib.hid hgl
  have HMM := Lib.hid hM
  have HROW := Lib.hid hrow
  have hNz : ¬ ((N : Int) = 0) := by omega
  have hNzn : ¬ N = 0 := by omega
  clear hbx hlit hw1 hg hok hM hgl hrow
  go_enter Tryz.func56, Tryz.ntmps56
  go_wp2_with fail
  refine (HND.out).mono ?_
  rintro e w' ⟨rfl, rfl⟩
  go_wp2_with fail
  rw [HW1.out]
  refine (HRP.out).mono ?_
  rintro e w2 ⟨rfl, hoc2, hb2⟩
  obtain ⟨gc, hgc⟩ : ∃ gc, w1.heap.size = gc := ⟨_, rfl⟩
  rw [hgc] at hoc2 ⊢
  have hb02 := HB1.out.trans (hb2.mono HB1.out.size)
  have hwg : w.heap.size ≤ gc := by have := HB1.out.size; omega
  have hgc2 : gc < w2.heap.size := (hoc2.lt _ rfl).2
  have hC2 : w2.ownsRow w.heap.size 3 1 (.slice (some ⟨gc, 0, none⟩) M M) M ((List.replicate g.length (-1 : Int)).map (Value.int .i64)) := by
    rw [List.map_replicate, HGL.out]
    exact own_base hoc2 hwg
  have HC2 := Lib.hid hC2
  have HB02 := Lib.hid hb02
  clear hoc2 hb2 hb02 hC2 HND HRP hgc
  go_wp2_with fail
  go_loopw [5, 22] (fun qv uv wl => ∃ (u : Nat) (Q : Option Addr) (qc : Nat), uv = .int .i64 (u : Int) ∧ u ≤ N ∧ qv = .slice Q u qc ∧ Hid (wl.ownsRow w2.heap.size 3 1 (.slice Q u qc) u ((ints (diagQ N u)).map (Value.int .i64))) ∧ Hid (Below w2.heap.size w2 wl)) (fun _ uv _ => N - (intOf uv).toNat)
  case atStart => exact ⟨0, none, 0, rfl, Nat.zero_le _, rfl, Lib.hid ⟨rfl, .inl ⟨rfl, rfl⟩⟩, Lib.hid (Below.refl _ _)⟩
  case round =>
    obtain ⟨u, Q, qc, rfl, hu, rfl, hQ, hB⟩ := hrel
    obtain ⟨v0, rfl⟩ : ∃ v0, v0 = wr := ⟨_, rfl⟩
    by_cases huN : u < N
    · have huN' : (u : Int) < (N : Int) := by omega
      have hu0 : (0 : Int) ≤ (u : Int) := by omega
      have hpm : u * N ≤ 65536 := Nat.le_trans (Nat.mul_le_mul (show u ≤ 256 by omega) h4) (by decide)
      obtain ⟨p, hp⟩ : ∃ p, u * N = p := ⟨_, rfl⟩
      have hpi : (u : Int) * (N : Int) = (p : Int) := by rw [← hp]; rfl
      obtain ⟨q, hq⟩ : ∃ q, p + u = q := ⟨_, rfl⟩
      have hqi : (p : Int) + (u : Int) = (q : Int) := by omega
      rw [hp] at hpm
      have hq1 : q ≤ 65792 := by omega
      have HPQ := Lib.hid (And.intro hp hq)
      have hQO := hQ.out
      have hsz := hB.out.size
      clear hp hq
      go_wp2_with (at_builtin; refine wpList_push2 rfl _ _ _ rfl tInts hQO rfl _ 0 rfl rfl rfl (by simp only [maxLen]; omega) (by omega) hsz ?_; intro g3 cap3 v3 hown3 hor3 hlt3)
      have HQ3 : Hid (v3.ownsRow w2.heap.size 3 1 (.slice (some ⟨g3, 0, none⟩) (u + 1) cap3) (u + 1) ((ints (diagQ N (u + 1))).map (Value.int .i64))) := Lib.hid (by
        rw [diagQ_snoc, HPQ.out.1, HPQ.out.2, ints_push]
        exact hown3)
      have HB3 := Lib.hid (push_below hB.out hQO hor3 hsz)
      clear hown3 hor3 hQO
      go_wp2_with fail
      exact ⟨⟨u + 1, _, _, by go_num, by omega, rfl, HQ3, HB3⟩, by simp [intOf]; omega⟩
    · obtain rfl : u = N := by omega
      have huN' : ¬ (u : Int) < (u : Int) := by omega
      have hin := Inv.init HOK.out
      have hr0 : roundTo u g 0 = .go (List.replicate g.length (-1)) (diagQ u u) := rfl
      have hq0 : v0.ownsRow w2.heap.size 3 1 (.slice Q (diagQ u u).length qc) (diagQ u u).length ((ints (diagQ u u)).map (Value.int .i64)) := by rw [diagQ_len]; exact hQ.out
      have HIN : Hid (Inv u g (List.replicate g.length (-1)) (diagQ u u)) := Lib.hid hin
      have HR0 := Lib.hid hr0
      have HQ0 := Lib.hid hq0
      have HC0 := Lib.hid (own_below HC2.out hB.out)
      have HB0 := Lib.hid (HB02.out.trans (hB.out.mono HB02.out.size))
      have hql : (diagQ u u).length = u := diagQ_len u u
      have hsz2 : w2.heap.size ≤ v0.heap.size := hB.out.size
      clear hin hr0 hq0 hQ hB HC2
      go_wp2_with fail
      go_loopw [5, 7] (fun qv iv wl => ∃ (i : Nat) (came : List Int) (queue : List Nat) (Q : Option Addr) (qc ql : Nat), iv = .int .i64 (i : Int) ∧ i ≤ ql ∧ qv = .slice Q ql qc ∧ Hid (queue.length = ql) ∧ Hid (roundTo u g i = .go came queue) ∧ Hid (Inv u g came queue) ∧
        Hid (wl.ownsRow w.heap.size 3 1 (.slice (some ⟨gc, 0, none⟩) M M) M (came.map (Value.int .i64))) ∧ Hid (wl.ownsRow w2.heap.size 3 1 (.slice Q ql qc) ql ((ints queue).map (Value.int .i64))) ∧ Hid (Below w.heap.size w wl) ∧ Hid (w2.heap.size ≤ wl.heap.size)) (fun _ iv _ => M + 1 - (intOf iv).toNat)
      case atStart => exact ⟨0, _, diagQ u u, Q, qc, u, rfl, Nat.zero_le _, rfl, Lib.hid hql, HR0, HIN, HC0, (by rw [diagQ_len] at HQ0; exact HQ0), HB0, Lib.hid hsz2⟩
      case round =>
        obtain ⟨i, came, queue, Q2, qc2, ql, rfl, hi, rfl, hQL, hRD, hINV, hCM, hQU, hB2, hSZ⟩ := hrel
        clear HIN HR0 HQ0 HC0 HB0 hql hsz2
        obtain ⟨v1, rfl⟩ : ∃ v1, v1 = wr := ⟨_, rfl⟩
        have hqM : ql ≤ M := by
          have h := nodup_len hINV.out.nd hINV.out.qlt
          rw [hQL.out, HGL.out] at h
          exact h
        by_cases hil : i < ql
        · have hil' : (i : Int) < (ql : Int) := by omega
          have hi0 : (0 : Int) ≤ (i : Int) := by omega
          obtain ⟨aq, v, rfl, hv, hcv⟩ := nat_at (Sl.of_own hQU.out) hil
          have hvq := List.mem_of_getElem? hv
          have hvM : v < M := by rw [← HGL.out]; exact hINV.out.qlt v hvq
          have hvM' : (v : Int) < (M : Int) := by omega
          have hv0 : (0 : Int) ≤ (v : Int) := by omega
          obtain ⟨ad, l, P, pc, rfl, hl, hcl0, _, hsl⟩ := HG.out.at_ hvM
          have hcl := cell_later hB2.out hcl0
          clear hcl0
          obtain ⟨row, hrw, rfl⟩ : ∃ row, g[v]? = some row ∧ ints row = l := by
            rw [List.getElem?_map] at hl
            cases hx : g[v]? with
            | none => rw [hx] at hl; cases hl
            | some y => rw [hx] at hl; exact ⟨y, rfl, Option.some.inj hl⟩
          have hrl := HROW.out row (List.mem_of_getElem? hrw)
          have hgd : g.getD v [] = row := by rw [List.getD_eq_getElem?_getD, hrw]; rfl
          obtain ⟨rl, hrl'⟩ : ∃ rl, row.length = rl := ⟨_, rfl⟩
          rw [ints_len, hrl'] at hcl hsl
          rw [hrl'] at hrl
          obtain ⟨av, hav⟩ : ∃ av, v / u = av := ⟨_, rfl⟩
          obtain ⟨bv, hbv⟩ : ∃ bv, v % u = bv := ⟨_, rfl⟩
          have ev1 : (v : Int).tdiv (u : Int) = (av : Int) := by rw [← hav]; rfl
          have ev2 : (v : Int).tmod (u : Int) = (bv : Int) := by rw [← hbv]; rfl
          have ev3 : (v : Int) / (u : Int) = (av : Int) := by rw [← hav]; rfl
          have ev4 : (v : Int) % (u : Int) = (bv : Int) := by rw [← hbv]; rfl
          have hav1 : av ≤ 65536 := by rw [← hav]; exact Nat.le_trans (Nat.div_le_self _ _) (by omega)
          have ev5 : IntKind.i64.wrap (av : Int) = (av : Int) := IntWalk.i64_in _ (by omega)
          have HDV : Hid (diag u v = decide (av = bv)) := Lib.hid (by rw [diag_iff, hav, hbv])
          have HV := Lib.hid (And.intro hv (And.intro hgd hrl'))
          have HSL3 := Lib.hid (fun (wz : World) (hz : Below w.heap.size w wz) => hsl.below hz)
          have hR0 : rowTo u v row came queue 0 = .go came queue := rfl
          have HR0 := Lib.hid hR0
          clear hv hvq hl hrw hgd hrl' hav hbv hsl hR0
          go_wp2_with (go_quiet (fail))
          go_loopw [5, 56] (fun qv sv wl => ∃ (s : Nat) (cm : List Int) (qu : List Nat) (Q3 : Option Addr) (qc3 ql3 : Nat), sv = .int .i64 (s : Int) ∧ s ≤ rl ∧ qv = .slice Q3 ql3 qc3 ∧ Hid (qu.length = ql3) ∧ Hid (rowTo u v row came queue s = .go cm qu) ∧ Hid (Inv u g cm qu) ∧ Hid (v ∈ qu ∧ i < ql3) ∧
            Hid (wl.ownsRow w.heap.size 3 1 (.slice (some ⟨gc, 0, none⟩) M M) M (cm.map (Value.int .i64))) ∧ Hid (wl.ownsRow w2.heap.size 3 1 (.slice Q3 ql3 qc3) ql3 ((ints qu).map (Value.int .i64))) ∧ Hid (Below w.heap.size w wl) ∧ Hid (w2.heap.size ≤ wl.heap.size)) (fun _ sv _ => rl - (intOf sv).toNat)
          case atStart => exact ⟨0, came, queue, some aq, qc2, ql, rfl, Nat.zero_le _, rfl, hQL, HR0, hINV, Lib.hid ⟨List.mem_of_getElem? HV.out.1, hil⟩, hCM, hQU, Lib.hid (below_drewN hB2.out _), Lib.hid hSZ.out⟩
          case round =>
            obtain ⟨s, cm, qu, Q3, qc3, ql3, rfl, hs, rfl, hQL3, hRW, hIN3, hVQ, hCM3, hQU3, hB3, hSZ3⟩ := hrel
            clear HR0
            obtain ⟨v3, rfl⟩ : ∃ v3, v3 = wr := ⟨_, rfl⟩
            have hq3M : ql3 ≤ M := by
              have h := nodup_len hIN3.out.nd hIN3.out.qlt
              rw [hQL3.out, HGL.out] at h
              exact h
            by_cases hsr : s < rl
            · have hsr' : (s : Int) < (rl : Int) := by omega
              have hs0 : (0 : Int) ≤ (s : Int) := by omega
              obtain ⟨ap, tt, rfl, htt, hct⟩ := nat_at (HSL3.out v3 hB3.out) hsr
              have htm : tt ∈ g.getD v [] := by rw [HV.out.2.1]; exact List.mem_of_getElem? htt
              have htM : tt < M := by rw [← HMM.out]; exact HOK.out.to v tt htm
              have htM' : (tt : Int) < (M : Int) := by omega
              have ht0 : (0 : Int) ≤ (tt : Int) := by omega
              have hcm := came_at hIN3.out (u := tt) (by rw [HGL.out]; exact htM)
              obtain ⟨z, hz⟩ : ∃ z, cm.getD tt (-1) = z := ⟨_, rfl⟩
              rw [hz] at hcm
              have hcz : v3.cell? ⟨gc, tt, none⟩ = some (.int .i64 z) := by rw [hCM3.out.cellAt tt (by omega), List.getElem?_map, hcm]; rfl
              have hfz := hCM3.out.frozenAt tt
              obtain ⟨at', hat⟩ : ∃ a, tt / u = a := ⟨_, rfl⟩
              obtain ⟨bt, hbt⟩ : ∃ b, tt % u = b := ⟨_, rfl⟩
              have et1 : (tt : Int).tdiv (u : Int) = (at' : Int) := by rw [← hat]; rfl
              have et2 : (tt : Int).tmod (u : Int) = (bt : Int) := by rw [← hbt]; rfl
              have et3 : (tt : Int) / (u : Int) = (at' : Int) := by rw [← hat]; rfl
              have et4 : (tt : Int) % (u : Int) = (bt : Int) := by rw [← hbt]; rfl
              have hat1 : at' ≤ 65536 := by rw [← hat]; exact Nat.le_trans (Nat.div_le_self _ _) (by omega)
              have et5 : IntKind.i64.wrap (at' : Int) = (at' : Int) := IntWalk.i64_in _ (by omega)
              have HDT : Hid (diag u tt = decide (at' = bt)) := Lib.hid (by rw [diag_iff, hat, hbt])
              have HRS : Hid (rowTo u v row came queue (s + 1) = tgt u v cm qu tt) := Lib.hid (by
                rw [rowTo, hRW.out]
                simp only
                rw [getN_of htt])
              have HTM := Lib.hid (And.intro htm (And.intro htM (And.intro hcm hz)))
              clear htt htm hcm hz hat hbt
              by_cases hd : at' = bt
              · have hdi : (at' : Int) = (bt : Int) := by omega
                have hbe : ((at' : Int) == (bt : Int)) = true := by simp [hd]
                have hbn : ((at' : Int) != (bt : Int)) = false := by simp [hd]
                have HD : Hid (diag u tt = true) := Lib.hid (by rw [HDT.out]; exact decide_eq_true hd)
                clear hdi hd
                by_cases hva : av = bv
                · have hvn : ((av : Int) != (bv : Int)) = false := by simp [hva]
                  have HNX : Hid (rowTo u v row came queue (s + 1) = .go cm qu) := Lib.hid (by
                    rw [HRS.out]
                    exact tgt_same (.inr ⟨HD.out, by rw [HDV.out]; exact decide_eq_true hva⟩))
                  clear hva
                  go_wp2_with (go_quiet (fail))
                  exact ⟨⟨s + 1, cm, qu, Q3, qc3, ql3, by go_num, by omega, rfl, hQL3, HNX, hIN3, hVQ, Lib.hid hCM3.out, Lib.hid hQU3.out, Lib.hid (below_drewN hB3.out _), Lib.hid hSZ3.out⟩, by simp [intOf]; omega⟩
                · have hvn : ((av : Int) != (bv : Int)) = true := by simp; omega
                  have hht := meet_hit (s := s + 1) hRD.out (by rw [hQL.out]; exact hil) (by rw [HGL.out]; omega) (by rw [getN_of HV.out.1, HV.out.2.1, HRS.out]; exact tgt_hit HD.out (by rw [HDV.out]; exact decide_eq_false hva)) (by rw [getN_of HV.out.1, HV.out.2.1, HV.out.2.2]; omega)
                  rw [HMF.out, HGL.out] at hht
                  have HHT := Lib.hid hht
                  clear hva hht
                  go_wp2_with (go_quiet (fail))
                  clear hvn hbe hbn
                  go_loopw [12, 13] (fun wv zv wl => ∃ (W : List Nat) (zz : Int) (f gw wn wc : Nat), zv = .int .i64 zz ∧ wv = .slice (some ⟨gw, 0, none⟩) wn wc ∧ Hid (W.length = wn) ∧ Hid (W ++ restB cm f zz = tt :: backTo cm (M + 1) v) ∧ Hid (zz < 0 ∨ ∃ j y : Nat, zz = (y : Int) ∧ qu[j]? = some y ∧ j < f) ∧
                    Hid (wl.ownsRow v3.heap.size 3 1 (.slice (some ⟨gw, 0, none⟩) wn wc) wn ((ints W).map (Value.int .i64))) ∧ Hid (Below v3.heap.size v3 wl)) (fun wv _ _ => M + 3 - slLen wv)
                  case atStart =>
                    refine ⟨[tt], (v : Int), M + 1, v3.heap.size, 1, 1, rfl, rfl, Lib.hid rfl, Lib.hid ?_, Lib.hid (.inr ?_), Lib.hid (World.ownsRow_lit (base := v3.heap.size) (e := 3) (size := 1) (v3.drewN _) #[.int .i64 (tt : Int)] 1 (Nat.le_refl _) (by decide) (by simp)), Lib.hid ((below_drewN (Below.refl v3.heap.size v3) _).alloc (Nat.le_refl _) _)⟩
                    · unfold restB
                      rw [if_neg (by omega), Int.toNat_natCast]
                      rfl
                    · obtain ⟨j, hj⟩ := List.getElem?_of_mem hVQ.out.1
                      refine ⟨j, v, rfl, hj, ?_⟩
                      have h1 := (List.getElem?_eq_some_iff.1 hj).1
                      have h2 := hQL3.out
                      omega
                  case round =>
                    obtain ⟨W, zz, f, gw, wn, wc, rfl, rfl, hWL, hWR, hZ, hWO, hWB⟩ := hrel
                    have hln := congrArg List.length hWR.out
                    rw [List.length_append, List.length_cons, hWL.out] at hln
                    have hbl := back_len cm (M + 1) v
                    obtain ⟨v7, rfl⟩ : ∃ v7, v7 = wr := ⟨_, rfl⟩
                    rcases Int.lt_or_le zz 0 with hzn | hzp
                    · have hzn' : ¬ zz ≥ 0 := by omega
                      have hww := hWR.out
                      rw [rest_neg hzn, List.append_nil] at hww
                      have hmf : mf = W.reverse := by rw [HHT.out, hww]
                      have hml : mf.length = wn := by rw [hmf, List.length_reverse, hWL.out]
                      have hrv := reverse_c v7 v3.heap.size gw wn wc (ints W) hWO.out (by omega)
                      have HRV := Lib.hid hrv
                      have HMR := Lib.hid (And.intro hmf hml)
                      have hgw := (hWO.out.lt gw rfl).1
                      clear hln hbl hww hmf hml hrv hWR hZ
                      go_wp2_with fail
                      refine (HRV.out).mono ?_
                      rintro e v8 ⟨rfl, ho8, hk8⟩
                      have HO8 : Hid (v8.ownsRow w.heap.size 3 1 (.slice (some ⟨gw, 0, none⟩) mf.length wc) mf.length ((ints mf).map (Value.int .i64))) := Lib.hid (by
                        rw [HMR.out.2, HMR.out.1]
                        have e : ints W.reverse = (ints W).reverse := by simp [ints]
                        rw [e]
                        exact own_base ho8 hB3.out.size)
                      have HB8 := Lib.hid ((hB3.out.trans (hWB.out.mono hB3.out.size)).trans (hk8.below (Nat.le_trans hB3.out.size hWB.out.size) (fun b e => by rw [show b = gw from e]; exact Nat.le_trans hB3.out.size hgw)))
                      clear ho8 hk8
                      go_wp2_with fail
                      go_ret
                      exact ⟨some ⟨gw, 0, none⟩, wc, by rw [HMR.out.2]; rfl, HO8.out, HB8.out⟩
                    · obtain ⟨j, y, rfl, hy, hjf⟩ := hZ.out.resolve_left (by omega)
                      obtain ⟨f', rfl⟩ : ∃ f', f = f' + 1 := ⟨f - 1, by omega⟩
                      have hzp' : (y : Int) ≥ 0 := hzp
                      have hyM : y < M := by rw [← HGL.out]; exact hIN3.out.qlt y (List.mem_of_getElem? hy)
                      have hyM' : (y : Int) < (M : Int) := by omega
                      have hcy := came_at hIN3.out (u := y) (by rw [HGL.out]; exact hyM)
                      have hnx := came_next hIN3.out hy (f := f') (by omega)
                      obtain ⟨z2, hz2⟩ : ∃ z2, cm.getD y (-1) = z2 := ⟨_, rfl⟩
                      rw [hz2] at hcy hnx
                      have hst := hWR.out
                      rw [rest_step, hz2] at hst
                      have HST : Hid ((W ++ [y]) ++ restB cm f' z2 = tt :: backTo cm (M + 1) v) := Lib.hid (by rw [List.append_assoc]; exact hst)
                      have HNX2 : Hid (z2 < 0 ∨ ∃ j y : Nat, z2 = (y : Int) ∧ qu[j]? = some y ∧ j < f') := Lib.hid (hnx.imp id (fun ⟨i', v', a1, a2, a3⟩ => ⟨i', v', a1, a2, a3⟩))
                      have HCY := Lib.hid (fun (wz : World) (hz : Below v3.heap.size v3 wz) => (by
                        have h := own_below hCM3.out hz
                        rw [h.cellAt y (by omega), List.getElem?_map, hcy]
                        rfl : wz.cell? ⟨gc, y, none⟩ = some (.int .i64 z2)))
                      have hln2 := congrArg List.length hst
                      rw [List.length_append, List.length_cons, List.length_cons, hWL.out] at hln2
                      have hwn : wn ≤ M + 1 := by omega
                      have HWL2 : Hid ((W ++ [y]).length = wn + 1) := Lib.hid (by rw [List.length_append, hWL.out]; rfl)
                      have hwo := hWO.out
                      have hwsz := hWB.out.size
                      clear hln hbl hy hcy hnx hz2 hst hln2 hWR hZ hjf
                      go_wp2_with (at_builtin; refine wpList_push2 rfl _ _ _ rfl tInts hwo rfl _ 0 rfl rfl rfl (by simp only [maxLen]; omega) (by omega) hwsz ?_; intro g8 cap8 v8 hown8 hor8 hlt8; have hb8 := push_below hWB.out hwo hor8 hwsz; have q8 := HCY.out v8 hb8)
                      have HO8 : Hid (v8.ownsRow v3.heap.size 3 1 (.slice (some ⟨g8, 0, none⟩) (wn + 1) cap8) (wn + 1) ((ints (W ++ [y])).map (Value.int .i64))) := Lib.hid (by rw [ints_push]; exact hown8)
                      clear hown8 hor8 q8
                      go_wp2_with fail
                      exact ⟨⟨W ++ [y], z2, f', g8, wn + 1, cap8, rfl, rfl, HWL2, HST, HNX2, HO8, Lib.hid hb8⟩, by simp [slLen]; omega⟩
              · have hbe : ((at' : Int) == (bt : Int)) = false := by simp; omega
                have hbn : ((at' : Int) != (bt : Int)) = true := by simp; omega
                have HD : Hid (diag u tt = false) := Lib.hid (by rw [HDT.out]; exact decide_eq_false hd)
                clear hd
                by_cases hz0 : z < 0
                · have HNX : Hid (rowTo u v row came queue (s + 1) = .go (cm.set tt (v : Int)) (qu ++ [tt])) := Lib.hid (by
                    rw [HRS.out]
                    exact tgt_new HD.out (by rw [HTM.out.2.2.2]; exact hz0))
                  have HIX : Hid (Inv u g (cm.set tt (v : Int)) (qu ++ [tt])) := Lib.hid (hIN3.out.push hVQ.out.1 HTM.out.1 (by rw [HGL.out]; exact htM) HD.out (by rw [HTM.out.2.2.2]; exact hz0))
                  have hgq : ∀ b, (Value.slice Q3 ql3 qc3).ownBlock = some b → w2.heap.size ≤ b := fun b hb => (hQU3.out.lt b hb).1
                  have hkk := fun q => Keeps.of_setCell (v3.drewN q) ⟨gc, tt, none⟩ (.int .i64 (v : Int))
                  have hQ5 := fun q => own_keeps (show (v3.drewN q).ownsRow w2.heap.size 3 1 (.slice Q3 ql3 qc3) ql3 ((ints qu).map (Value.int .i64)) from hQU3.out) (hkk q) (fun b hb e => by
                    have := hgq b hb
                    rw [show b = gc from e] at this
                    omega)
                  have hsz5 : ∀ q, w2.heap.size ≤ ((v3.drewN q).setCell ⟨gc, tt, none⟩ (.int .i64 (v : Int))).heap.size := fun q => by rw [World.size_setCell]; exact hSZ3.out
                  have HQ5 := Lib.hid hQ5
                  have HSZ5 := Lib.hid hsz5
                  have HC5 := Lib.hid (fun q => ((show (v3.drewN q).ownsRow w.heap.size 3 1 (.slice (some ⟨gc, 0, none⟩) M M) M (cm.map (Value.int .i64)) from hCM3.out).stored tt (.int .i64 (v : Int))).1)
                  have HB5 := Lib.hid (fun q => (below_drewN hB3.out q).setCell (p := ⟨gc, tt, none⟩) hwg (.int .i64 (v : Int)))
                  have HGQ := Lib.hid hgq
                  clear hgq hkk hQ5 hsz5
                  go_wp2_with (first | go_quiet (fail) | (at_builtin; refine wpList_push2 rfl _ _ _ rfl tInts (HQ5.out _) rfl (.int .i64 (tt : Int)) 0 rfl (by rw [World.size_setCell]; rfl) rfl (by simp only [maxLen]; omega) (by omega) (HSZ5.out _) ?_; intro g5 cap5 v5 hown5 hor5 hlt5))
                  have hk5 := push_keeps hor5
                  have hC6 := own_keeps (HC5.out _) hk5 (fun b hb e => by
                    have h1 := HGQ.out b e
                    have h2 : gc = b := by simpa [Value.ownBlock] using hb
                    omega)
                  have HC6 : Hid (v5.ownsRow w.heap.size 3 1 (.slice (some ⟨gc, 0, none⟩) M M) M ((cm.set tt (v : Int)).map (Value.int .i64))) := Lib.hid (by rw [List.map_set]; exact hC6)
                  have HQ6 : Hid (v5.ownsRow w2.heap.size 3 1 (.slice (some ⟨g5, 0, none⟩) (ql3 + 1) cap5) (ql3 + 1) ((ints (qu ++ [tt])).map (Value.int .i64))) := Lib.hid (by rw [ints_push]; exact hown5)
                  have HB6 := Lib.hid ((HB5.out _).trans (hk5.below (HB5.out _).size (fun b hb => Nat.le_trans (Nat.le_trans hwg (Nat.le_of_lt hgc2)) (HGQ.out b hb))))
                  have HS6 := Lib.hid (Nat.le_trans (HSZ5.out _) hk5.size)
                  have HL6 : Hid ((qu ++ [tt]).length = ql3 + 1) := Lib.hid (by rw [List.length_append, hQL3.out]; rfl)
                  have HV6 : Hid (v ∈ qu ++ [tt] ∧ i < ql3 + 1) := Lib.hid ⟨List.mem_append_left _ hVQ.out.1, Nat.lt_succ_of_lt hVQ.out.2⟩
                  exact ⟨⟨s + 1, cm.set tt (v : Int), qu ++ [tt], some ⟨g5, 0, none⟩, cap5, ql3 + 1, by go_num, by omega, rfl, HL6, HNX, HIX, HV6, HC6, HQ6, HB6, HS6⟩, by simp [intOf]; omega⟩
                · have HNX : Hid (rowTo u v row came queue (s + 1) = .go cm qu) := Lib.hid (by
                    rw [HRS.out]
                    exact tgt_same (.inl ⟨HD.out, by rw [HTM.out.2.2.2]; exact hz0⟩))
                  go_wp2_with (go_quiet (fail))
                  exact ⟨⟨s + 1, cm, qu, Q3, qc3, ql3, by go_num, by omega, rfl, hQL3, HNX, hIN3, hVQ, Lib.hid hCM3.out, Lib.hid hQU3.out, Lib.hid (below_drewN hB3.out _), Lib.hid hSZ3.out⟩, by simp [intOf]; omega⟩
            · obtain rfl : s = rl := by omega
              have hsr' : ¬ (s : Int) < (s : Int) := by omega
              have hnx := round_next hRD.out (by rw [hQL.out]; exact hil) (by rw [getN_of HV.out.1, HV.out.2.1, HV.out.2.2]; exact hRW.out)
              have HNX := Lib.hid hnx
              have hil3 := hVQ.out.2
              clear hnx
              go_wp2_with fail
              exact ⟨⟨i + 1, cm, qu, Q3, qc3, ql3, by go_num, by omega, rfl, hQL3, HNX, hIN3, hCM3, hQU3, hB3, hSZ3⟩, by simp [intOf]; omega⟩
        · obtain rfl : i = ql := by omega
          have hil' : ¬ (i : Int) < (i : Int) := by omega
          have hms := meet_stop hRD.out (by rw [hQL.out]; exact Nat.le_refl _) (by rw [HGL.out]; omega)
          obtain rfl : mf = [] := by rw [← HMF.out]; exact hms
          clear hms
          go_wp2_with fail
          go_ret
          exact ⟨none, 0, rfl, ⟨rfl, .inl ⟨rfl, rfl⟩⟩, hB2.out⟩
end Go.Proofs.YtibplgpolmplpaaGreatDoor

namespace Go.Proofs.YtibplgpolmplpaaGreatDoor
open Go.RowKit RuleP PairP

set_option maxRecDepth 100000 in
set_option maxHeartbeats 2000000 in
theorem wordF_c (w : World) (rb k r n c u : Nat) (A : Option Addr) (hr : RuleAt w rb (.int .i64 (k : Int)) (.int .i64 (r : Int)) (.slice A n c)) (hk1 : 1 ≤ k) (hk4 : k ≤ 4) (hr3 : r ≤ 3) (hu : u ≤ 65536) :
    Calls Tryz.prog 107 #[.int .i64 (u : Int), .pointer (some ⟨rb, 0, none⟩)] w fun e w' => ∃ (C : Option Addr) (cc : Nat), e = .returned (.slice C (2 * r) cc) ∧ w'.ownsRow w.heap.size 3 1 (.slice C (2 * r) cc) (2 * r) ((ints (digB k (2 * r) u)).map (Value.int .i64)) ∧ Below w.heap.size w w' := by
  obtain ⟨L, hL⟩ : ∃ L, 2 * r = L := ⟨_, rfl⟩
  rw [hL]
  have hLi : (2 : Int) * (r : Int) = (L : Int) := by omega
  have hL6 : L ≤ 6 := by omega
  have hmk := run_make_row' (P := Tryz.prog) 22 3 (.int .i64 0) 8 tInts.und tInts.info rfl .i64 .i64 L (by omega) (by omega)
  have hmd := make_ints w L (by simp only [maxLen]; omega)
  have hb1 := (Below.refl w.heap.size w).alloc (Nat.le_refl _) (.cells (madeCells #[.int .i64 0] L) 3)
  obtain ⟨w1, hw1⟩ : ∃ w1, w.alloc (.cells (madeCells #[.int .i64 0] L) 3) = w1 := ⟨_, rfl⟩
  have hr1 := hr.alloc (.cells (madeCells #[.int .i64 0] L) 3)
  rw [hw1] at hmd hb1 hr1
  obtain ⟨g, hg⟩ : ∃ g, w.heap.size = g := ⟨_, rfl⟩
  have hDl : (digB k L u).length = L := digB_len k L u
  have h0 : w1.ownsRow w.heap.size 3 1 (.slice (some ⟨g, 0, none⟩) L L) L ((ints (mix L (List.replicate L 0) (digB k L u) 0)).map (Value.int .i64)) := by
    rw [mix_zero (by simp) hDl, ← hg]
    simpa [ints] using hmd
  obtain ⟨r0, r1, r2, _⟩ := hr.facts
  have hrg : rb < g := by rw [← hg]; exact hr.lt
  have H0 := Lib.hid h0
  have HB1 := Lib.hid hb1
  have HR1 := Lib.hid hr1
  have HW1 := Lib.hid hw1
  have HG := Lib.hid hg
  have HDL := Lib.hid hDl
  have hk0 : ¬ ((k : Int) = 0) := by omega
  have hk0n : ¬ k = 0 := by omega
  have hu0 : u / k ^ 0 = u := by rw [Nat.pow_zero, Nat.div_one]
  have HU0 := Lib.hid hu0
  clear hL hmd hb1 hw1 hr1 hg hDl h0 hr hu0
  go_enter Tryz.func107, Tryz.ntmps107
  go_wp2_with fail
  rw [HW1.out, HG.out]
  clear hmk r0 r1 r2
  go_loopw [0, 12] (fun nv jv wl => ∃ j x : Nat, jv = .int .i64 (j : Int) ∧ j ≤ L ∧ nv = .int .i64 (x : Int) ∧ Hid (u / k ^ j = x) ∧ Hid (wl.ownsRow w.heap.size 3 1 (.slice (some ⟨g, 0, none⟩) L L) L ((ints (mix L (List.replicate L 0) (digB k L u) j)).map (Value.int .i64))) ∧ Hid (RuleAt wl rb (.int .i64 (k : Int)) (.int .i64 (r : Int)) (.slice A n c)) ∧ Hid (Below w.heap.size w wl)) (fun _ jv _ => L - (intOf jv).toNat)
  case atStart => exact ⟨0, u, rfl, Nat.zero_le _, rfl, HU0, H0, HR1, HB1⟩
  case round =>
    obtain ⟨j, x, rfl, hj, rfl, hX, hO, hR, hB⟩ := hrel
    clear H0 HB1 HR1
    obtain ⟨v0, rfl⟩ : ∃ v0, v0 = wr := ⟨_, rfl⟩
    by_cases hjL : j < L
    · have hjL' : (j : Int) < (L : Int) := by omega
      have hj0 : (0 : Int) ≤ (j : Int) := by omega
      obtain ⟨r0, r1, r2, _⟩ := hR.out.facts
      have hxu : x ≤ 65536 := by rw [← hX.out]; exact Nat.le_trans (Nat.div_le_self _ _) hu
      obtain ⟨y, hy⟩ : ∃ y, x % k = y := ⟨_, rfl⟩
      obtain ⟨x2, hx2⟩ : ∃ x2, x / k = x2 := ⟨_, rfl⟩
      have e1 : (x : Int).tmod (k : Int) = (y : Int) := by rw [← hy]; rfl
      have e2 : (x : Int).tdiv (k : Int) = (x2 : Int) := by rw [← hx2]; rfl
      have e1' : (x : Int) % (k : Int) = (y : Int) := by rw [← hy]; rfl
      have e2' : (x : Int) / (k : Int) = (x2 : Int) := by rw [← hx2]; rfl
      have hx2u : x2 ≤ 65536 := by rw [← hx2]; exact Nat.le_trans (Nat.div_le_self _ _) hxu
      have e3 : IntKind.i64.wrap (x2 : Int) = (x2 : Int) := IntWalk.i64_in _ (by omega)
      have e4 : wrap64 (x2 : Int) = (x2 : Int) := IntWalk.wrap64_in _ (by omega)
      obtain ⟨p, hp⟩ : ∃ p, L - 1 - j = p := ⟨_, rfl⟩
      have hpi : (L : Int) - 1 - (j : Int) = (p : Int) := by omega
      have hpL : p < L := by omega
      have hpL' : (p : Int) < (L : Int) := by omega
      have hp0 : (0 : Int) ≤ (p : Int) := by omega
      have hdig := digB_at (k := k) (i := u) hjL
      rw [hX.out, hy, hp] at hdig
      have hml := mix_len (vs := List.replicate L 0) (j := j) (by simp) HDL.out hj
      obtain ⟨q, hq⟩ : ∃ q, (mix L (List.replicate L 0) (digB k L u) j)[p]? = some q := ⟨_, List.getElem?_eq_getElem (by rw [hml]; exact hpL)⟩
      have q0 : v0.cell? ⟨g, p, none⟩ = some (.int .i64 (q : Int)) := by
        rw [hO.out.cellAt p (by omega), ints_map, List.getElem?_map, hq]; rfl
      have q1 := hO.out.frozenAt p
      have hst := (hO.out.stored p (.int .i64 (y : Int))).1
      have hms := mix_set (vs := List.replicate L 0) (D := digB k L u) (j := j) (x := y) (by simp) HDL.out hjL (by rw [hp]; exact hdig)
      rw [hp] at hms
      have HN : Hid ((v0.setCell ⟨g, p, none⟩ (.int .i64 (y : Int))).ownsRow w.heap.size 3 1 (.slice (some ⟨g, 0, none⟩) L L) L ((ints (mix L (List.replicate L 0) (digB k L u) (j + 1))).map (Value.int .i64))) := Lib.hid (by
        rw [← hms, ← ints_set, List.map_set]
        exact hst)
      have HX2 : Hid (u / k ^ (j + 1) = x2) := Lib.hid (by rw [Nat.pow_succ, ← Nat.div_div_eq_div_mul, hX.out, hx2])
      have hrx := hR.out.keeps (Keeps.of_setCell v0 ⟨g, p, none⟩ (.int .i64 (y : Int))) (show ¬ rb = g by omega)
      obtain ⟨s0, s1, s2, _⟩ := hrx.facts
      have HRX := Lib.hid hrx
      have HBX := Lib.hid (hB.out.setCell (p := ⟨g, p, none⟩) (by rw [HG.out]; exact Nat.le_refl _) (.int .i64 (y : Int)))
      clear hp hdig hml hq hst hms hrx hy hx2
      go_wp2_with fail
      exact ⟨⟨j + 1, x2, by go_num, by omega, rfl, HX2, HN, HRX, HBX⟩, by simp [intOf]; omega⟩
    · obtain rfl : j = L := by omega
      have hjL' : ¬ (j : Int) < (j : Int) := by omega
      have ho := hO.out
      rw [mix_all] at ho
      have HO := Lib.hid ho
      clear ho
      go_wp2_with fail
      go_ret
      exact ⟨some ⟨g, 0, none⟩, j, rfl, HO.out, hB.out⟩

set_option maxHeartbeats 400000 in
theorem wayF_c (w : World) (x : Int) (b N M : Nat) (hM : N * N = M) (h4 : N ≤ 256) (hb : w.cell? ⟨b, 0, none⟩ = some (.int .i64 (N : Int))) :
    Calls Tryz.prog 105 #[.int .i64 x, .pointer (some ⟨b, 0, none⟩)] w fun e w' => e = .returned (.bool (decide (x < 0 ∨ (M : Int) ≤ x))) ∧ w = w' := by
  have hNN : (N : Int) * (N : Int) = (M : Int) := by rw [← hM]; rfl
  have hM6 : M ≤ 65536 := by rw [← hM]; exact Nat.le_trans (Nat.mul_le_mul h4 h4) (by decide)
  clear hM
  by_cases h : x < 0
  · have h1 : decide (x < 0) = true := decide_eq_true h
    have hd : Hid (decide (x < 0 ∨ (M : Int) ≤ x) = true) := Lib.hid (decide_eq_true (.inl h))
    go_enter Tryz.func105, Tryz.ntmps105
    go_wp2_with fail
    go_ret
    exact ⟨by first | rfl | (rw [hd.out]; rfl), rfl⟩
  · have h1 : decide (x < 0) = false := decide_eq_false h
    have hd : Hid (decide (x < 0 ∨ (M : Int) ≤ x) = decide ((M : Int) ≤ x)) := Lib.hid (by simp [h])
    go_enter Tryz.func105, Tryz.ntmps105
    go_wp2_with fail
    go_ret
    exact ⟨by first | rfl | (rw [hd.out]; rfl), rfl⟩
/-- No pair of the way is out of bounds. -/
theorem wayTest_c (w : World) (b N M : Nat) (hM : N * N = M) (h4 : N ≤ 256) (hb : w.cell? ⟨b, 0, none⟩ = some (.int .i64 (N : Int))) (B : Option Addr) (m d : Nat) (W : List Nat) (hW : Sl w B m ((ints W).map (Value.int .i64))) (hm2 : m ≤ 9223372036854775807) (hall : ∀ x ∈ W, x < M) :
    Calls Tryz.prog 104 #[.slice B m d, .func (.func 105) #[] #[.pointer (some ⟨b, 0, none⟩)]] w fun e w' => e = .returned (.bool false) ∧ w = w' := by
  have hi := indexFunc_c w 105 ⟨b, 0, none⟩ (fun x => decide (x < 0 ∨ (M : Int) ≤ x)) B m d (ints W) hW hm2
    (fun x wz => run_enter Tryz.func105 (by kernel_rfl) (by kernel_rfl) _ _) (fun x => wayF_c w x b N M hM h4 hb)
  have hno : (ints W).findIdx? (fun x => decide (x < 0 ∨ (M : Int) ≤ x)) = none := by
    rw [List.findIdx?_eq_none_iff]
    intro x hx
    unfold ints at hx
    obtain ⟨y, hy, rfl⟩ := List.mem_map.1 hx
    have := hall y hy
    exact decide_eq_false (by omega)
  rw [hno] at hi
  have HI := Lib.hid hi
  clear hi hno hb hW
  go_enter Tryz.func104, Tryz.ntmps104
  go_wp2_with fail
  refine (HI.out).mono ?_
  rintro e w2 ⟨rfl, rfl⟩
  have hpl : place none = -1 := rfl
  rw [hpl]
  clear hpl
  go_wp2_with fail
  go_ret
  exact ⟨rfl, rfl⟩
end Go.Proofs.YtibplgpolmplpaaGreatDoor

namespace Go.Proofs.YtibplgpolmplpaaGreatDoor
open Go.RowKit

theorem run_cat {P : Program} (w : World) (t ty : TypeId) {e : TypeId} {z : Value} {bytes : Nat} (hT : ElemT P t e z bytes) {base : Nat} {v : Value} {n : Nat} {xs : List Value} (hown : w.ownsRow base e 1 v n xs)
    {A : Option Addr} {m c : Nat} {ys : List Value} (hsl : Sl w A m ys) (hu : ∀ u ∈ ys, u.oneCell' = true) (h63 : n + m ≤ maxLen) (hbytes : (n + m) * bytes ≤ 140737488355328) (hbase : base ≤ w.heap.size) :
    ∃ v' w', (Builtin.append_ #[t, t] ty #[v, .slice A m c]).run P w = .ok v' w' ∧ w'.ownsRow base e 1 v' (n + m) (xs ++ ys) ∧ w.grownBy w' v.ownBlock ∧ (v'.ownBlock = v.ownBlock ∨ v'.ownBlock = some w.heap.size) := by
  obtain ⟨i, hi, hz, hz1, hz2⟩ := info_parts hT.info
  cases A with
  | none =>
    have hys : ys = [] := by
      cases ys with
      | nil => rfl
      | cons y ys => obtain ⟨ad, e', _⟩ := hsl.2 0 y (by simp); cases e'
    subst hys
    have hm : m = 0 := by have := hsl.1; simpa using this.symm
    subst hm
    exact ⟨v, w, run_append_of_nil (P := P) (w := w) (t := t) (ty := ty) hT.und hi hown c, by simpa using hown, World.grownBy.refl _ _, .inl rfl⟩
  | some ad =>
    obtain ⟨v', w', h1, h2, h3, _, h5⟩ := run_append_own_at (P := P) w base t ty e i z 1 bytes hT.und hi hz hz1 hz2 (by rw [hT.one]; rfl) (by decide) v n xs hown ad m c ys (by rw [hsl.1]; simp) (fun j u hj => by
      obtain ⟨ad', e', hc⟩ := hsl.2 j u hj
      cases e'
      exact hc) hu h63 hbytes hbase
    exact ⟨v', w', h1, h2, h3, h5⟩

end Go.Proofs.YtibplgpolmplpaaGreatDoor

namespace Go.Proofs.YtibplgpolmplpaaGreatDoor
open Go.RowKit

end Go.Proofs.YtibplgpolmplpaaGreatDoor

namespace Go.Proofs.YtibplgpolmplpaaGreatDoor
open Go.RowKit

end Go.Proofs.YtibplgpolmplpaaGreatDoor

namespace Go.Proofs.YtibplgpolmplpaaGreatDoor
open Go.RowKit RuleP

end Go.Proofs.YtibplgpolmplpaaGreatDoor

namespace Go.Proofs.YtibplgpolmplpaaGreatDoor
open Go.RowKit RuleP

end Go.Proofs.YtibplgpolmplpaaGreatDoor

namespace Go.Proofs.YtibplgpolmplpaaGreatDoor
open Go.RowKit RuleP

end Go.Proofs.YtibplgpolmplpaaGreatDoor
