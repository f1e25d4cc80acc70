/- What the document's search among preimages adds: edenref08's on. Condition: the search lies in memory as SeekAt says. -/
import Derived.Test.YtfgjcdfmlpdkaaaDoorR8WS
import Derived.Test.YtfgjcdfmlpdkaaaDoorCopyM
namespace Go.Proofs.YtfgjcdfmlpdkaaaDoor
open Go.RowKit RuleP

/-- What is proved of a call of the search at place i. -/
def SeekC (D : DeadP) (i : Nat) : Prop :=
  ∀ (w : World) (lv : Value) (rows : List Value) (L : List (List Nat)) (more : Bool) (XA : Option Addr) (xc u : Nat) (x : List Nat) (P : List (List Nat)), SeekAt w D lv rows L more →
    w.ownsRow D.B 3 1 (.slice XA x.length xc) x.length ((ints x).map (Value.int .i64)) → x.length = 2 * D.r + i → u < D.N → RuleP.Found D.most P L more →
    Calls Tryd.prog 79 #[.pointer (some ⟨D.db, 0, none⟩), .slice XA x.length xc, .int .i64 (u : Int)] w fun e w' => e = .returned (.tuple #[]) ∧ SeekPost w D lv x P (sols D.k D.N D.t u (D.W.drop i)) w'

variable {w : World} {D : DeadP} {lv : Value} {rows : List Value} {L : List (List Nat)}

theorem seek_same {x : List Nat} {P S : List (List Nat)} {more : Bool} {w' : World} (h : SeekAt w D lv rows L more) (hF : RuleP.Found D.most (onP P x S) L more) (hb : Below w.heap.size w w') : SeekPost w D lv x P S w' :=
  ⟨lv, rows, L, more, h.pure hb, hF, Keeps.of_pure hb _, fun _ hg => Or.inl hg⟩

set_option maxRecDepth 100000 in
set_option maxHeartbeats 1000000 in
theorem seek_more (h : SeekAt w D lv rows L true) (XA : Option Addr) (xc u i : Nat) (x : List Nat) (P S : List (List Nat)) (hr3 : D.r ≤ 3) (hx : x.length = 2 * D.r + i) (hl : i ≤ 500) (hF : RuleP.Found D.most P L true) :
    Calls Tryd.prog 79 #[.pointer (some ⟨D.db, 0, none⟩), .slice XA x.length xc, .int .i64 (u : Int)] w fun e w' => e = .returned (.tuple #[]) ∧ SeekPost w D lv x P S w' := by
  obtain ⟨c0, c1, c2, c3, c4, c5, c6, c7, f6, f7⟩ := h.facts
  have HE := Lib.hid (seek_same (x := x) (S := S) h (hF.stay _) (Below.refl _ _))
  obtain ⟨n, hn⟩ : ∃ n, x.length = n := ⟨_, rfl⟩
  rw [hn] at hx ⊢
  have hi : (n : Int) - 2 * (D.r : Int) = (i : Int) := by omega
  clear h hF hn
  go_enter Tryd.func79, Tryd.ntmps79
  go_wp2_with fail
  first | go_end0 | refine bodyPost_ret (results_none rfl _ _ _) rfl ?_
  exact ⟨rfl, HE.out⟩

set_option maxRecDepth 100000 in
set_option maxHeartbeats 1000000 in
theorem seek_dead (h : SeekAt w D lv rows L false) (XA : Option Addr) (xc u i : Nat) (x : List Nat) (P : List (List Nat)) (hr3 : D.r ≤ 3) (hx : x.length = 2 * D.r + i) (hi : i ≤ D.W.length) (hl : D.W.length ≤ 256) (hu : u < D.N) (hF : RuleP.Found D.most P L false)
    (hw : wayB D.k D.N D.t u (D.W.drop i) = false) :
    Calls Tryd.prog 79 #[.pointer (some ⟨D.db, 0, none⟩), .slice XA x.length xc, .int .i64 (u : Int)] w fun e w' => e = .returned (.tuple #[]) ∧ SeekPost w D lv x P (sols D.k D.N D.t u (D.W.drop i)) w' := by
  obtain ⟨c0, c1, c2, c3, c4, c5, c6, c7, f6, f7⟩ := h.facts
  have hs : sols D.k D.N D.t u (D.W.drop i) = [] := by simpa [wayB] using hw
  have HE := Lib.hid (seek_same (x := x) (S := sols D.k D.N D.t u (D.W.drop i)) h (by rw [hs, onP_nil]; exact hF) (Below.refl _ _))
  obtain ⟨g0, g, hav, _, v1, v2⟩ := h.ways.reads hi hu
  rw [hav] at c4
  rw [hw] at v2
  obtain ⟨n, hn⟩ : ∃ n, x.length = n := ⟨_, rfl⟩
  rw [hn] at hx ⊢
  have hi2 : (n : Int) - 2 * (D.r : Int) = (i : Int) := by omega
  clear h hF hn hs hw hav
  go_enter Tryd.func79, Tryd.ntmps79
  go_wp2_with fail
  first | go_end0 | refine bodyPost_ret (results_none rfl _ _ _) rfl ?_
  exact ⟨rfl, HE.out⟩

set_option maxRecDepth 100000 in
set_option maxHeartbeats 1000000 in
theorem seek_full (h : SeekAt w D lv rows L false) (XA : Option Addr) (xc u : Nat) (x : List Nat) (P : List (List Nat)) (hr3 : D.r ≤ 3) (hx : x.length = 2 * D.r + D.W.length) (hl : D.W.length ≤ 256) (hm : D.most ≤ 256) (hu : u < D.N) (hF : RuleP.Found D.most P L false)
    (hlt : ¬ L.length < D.most) :
    Calls Tryd.prog 79 #[.pointer (some ⟨D.db, 0, none⟩), .slice XA x.length xc, .int .i64 (u : Int)] w fun e w' => e = .returned (.tuple #[]) ∧ SeekPost w D lv x P (sols D.k D.N D.t u (D.W.drop D.W.length)) w' := by
  have hs : Hid (sols D.k D.N D.t u (D.W.drop D.W.length) = [[]]) := Lib.hid (by rw [List.drop_length]; exact sols_nil _ _ _ _)
  rw [hs.out]
  have hlm : L.length = D.most := by
    obtain ⟨e, h2⟩ := hF.all
    rw [← e] at h2
    omega
  obtain ⟨A, c, rfl, hlc, _⟩ := own_slice h.lst
  obtain ⟨c0, c1, c2, c3, c4, c5, c6, c7, f6, f7⟩ := h.facts
  obtain ⟨g0, g, hav, _, v1, v2⟩ := h.ways.reads (Nat.le_refl _) hu
  rw [hav] at c4
  rw [List.drop_length, wayB_nil] at v2
  have hP := hF.full hlt x
  have HE := Lib.hid (fun (wz : World) (hz : Below (w.setCell ⟨D.db, 7, none⟩ (.bool true)).heap.size (w.setCell ⟨D.db, 7, none⟩ (.bool true)) wz) =>
    (⟨_, rows, L, true, h.full.pure hz, by rw [onP_leaf]; exact hP, ((Keeps.of_setCell w ⟨D.db, 7, none⟩ (.bool true)).mono (fun b _ e => Or.inl e)).trans (Keeps.of_pure hz _) (fun _ _ h => h), fun g hg => Or.inl hg⟩ : SeekPost w D (.slice A L.length c) x P [[]] wz))
  obtain ⟨n, hn⟩ : ∃ n, x.length = n := ⟨_, rfl⟩
  rw [hn] at hx ⊢
  have hi2 : (n : Int) - 2 * (D.r : Int) = (D.W.length : Int) := by omega
  have h1 : ((D.W.length : Int) == (D.W.length : Int)) = true := by simp
  have h2 : ((L.length : Int) == (D.most : Int)) = true := by rw [hlm]; simp
  clear h hF hn hs hav hlt hP hlm
  go_enter Tryd.func79, Tryd.ntmps79
  go_wp2_with fail
  go_region
  go_wp2_with fail
  first | go_end0 | refine bodyPost_ret (results_none rfl _ _ _) rfl ?_
  exact ⟨rfl, HE.out _ ((Below.refl _ _).drew)⟩

theorem seek_leaf {w1 w3 : World} {g cap : Nat} {v : Value} {x : List Nat} {P : List (List Nat)} (h : SeekAt w D lv rows L false) (hb : Below w.heap.size w w1)
    (hc : w1.ownsRow w.heap.size 3 1 v x.length ((ints x).map (Value.int .i64))) (hk : Keeps (fun b => lv.ownBlock = some b) w1 w3) (hown : w3.ownsRow D.B 22 1 (.slice (some ⟨g, 0, none⟩) (L.length + 1) cap) (L.length + 1) (rows ++ [v]))
    (hg : lv.ownBlock = some g ∨ w1.heap.size ≤ g) (hP : RuleP.Found D.most (P ++ [x]) (L ++ [x]) false) :
    SeekPost w D lv x P [[]] (w3.setCell ⟨D.db, 6, none⟩ (.slice (some ⟨g, 0, none⟩) (L.length + 1) cap)) := by
  have hB : D.B ≤ w.heap.size := h.old.size
  have hd := (h.pure hb).put (own_base hc hB) hown hk
  refine ⟨_, _, _, _, hd, by rw [onP_leaf]; exact hP, ?_, fun g' hg' => ?_⟩
  · exact ((Keeps.of_pure hb (SeekFoot D lv)).trans (hk.mono (fun b _ e => Or.inr e)) (fun _ _ h => h)).trans ((Keeps.of_setCell w3 _ _).mono (fun b _ e => Or.inl e)) (fun _ _ h => h)
  · have e' : g = g' := by simpa [Value.ownBlock] using hg'
    subst e'
    exact hg.imp id (fun h => Nat.le_trans hb.size h)

set_option maxRecDepth 100000 in
set_option maxHeartbeats 4000000 in
theorem seek_put (h : SeekAt w D lv rows L false) (XA : Option Addr) (xc u : Nat) (x : List Nat) (P : List (List Nat)) (hr3 : D.r ≤ 3) (hx : x.length = 2 * D.r + D.W.length) (hl : D.W.length ≤ 256) (hm : D.most ≤ 256) (hu : u < D.N) (hF : RuleP.Found D.most P L false)
    (hlt : L.length < D.most) (hX : w.ownsRow D.B 3 1 (.slice XA x.length xc) x.length ((ints x).map (Value.int .i64))) :
    Calls Tryd.prog 79 #[.pointer (some ⟨D.db, 0, none⟩), .slice XA x.length xc, .int .i64 (u : Int)] w fun e w' => e = .returned (.tuple #[]) ∧ SeekPost w D lv x P (sols D.k D.N D.t u (D.W.drop D.W.length)) w' := by
  have hs : Hid (sols D.k D.N D.t u (D.W.drop D.W.length) = [[]]) := Lib.hid (by rw [List.drop_length]; exact sols_nil _ _ _ _)
  rw [hs.out]
  obtain ⟨A, c, rfl, hlc, _⟩ := own_slice h.lst
  obtain ⟨c0, c1, c2, c3, c4, c5, c6, c7, f6, f7⟩ := h.facts
  obtain ⟨g0, g, hav, _, v1, v2⟩ := h.ways.reads (Nat.le_refl _) hu
  rw [hav] at c4
  rw [List.drop_length, wayB_nil] at v2
  have hL : L.length ≤ 256 := by omega
  have hP := Lib.hid (hF.put hlt x)
  have HLF := Lib.hid (fun (w1 w3 : World) (g cap : Nat) (v : Value) => seek_leaf (w1 := w1) (w3 := w3) (g := g) (cap := cap) (v := v) (x := x) (P := P) h)
  have hA := h.pure ((Below.refl _ _).drew)
  have hAA := Lib.hid hA
  have hxd := own_below hX ((Below.refl _ _).drew)
  have HXD := Lib.hid (Sl.of_own (own_below hxd ((Below.refl _ _).drew)))
  obtain ⟨n, hn⟩ : ∃ n, x.length = n := ⟨_, rfl⟩
  rw [hn] at hx hxd HXD HLF ⊢
  have hi2 : (n : Int) - 2 * (D.r : Int) = (D.W.length : Int) := by omega
  have h1 : ((D.W.length : Int) == (D.W.length : Int)) = true := by simp
  have h2 : ((L.length : Int) == (D.most : Int)) = false := by simp; omega
  have hnb : n ≤ 1000 := by omega
  clear h hF hn hs hav hlt hA hX hxd hx
  go_enter Tryd.func79, Tryd.ntmps79
  go_wp2_with fail
  go_region
  go_wp2_with fail
  go_region_law (first
    | (go_simp
       go_at_call 34
       refine (copy_c _ XA n xc _ HXD.out (ints_one _) (by omega)).mono ?_
       rintro e w1 ⟨C, cc, rfl, hc1, hb1⟩
       have hA1 := (hAA.out.pure ((Below.refl _ _).drew)).pure hb1
       have e6 := hA1.facts.2.2.2.2.2.2.1
       have hz1 := hA1.lt
       dsimp only)
    | (refine step_push3 ?_ (.tmp 58) (.tmp 61) 27 rfl tIntss (base := D.B) (v := .slice A L.length c) (n := L.length) (xs := rows) ?_ rfl ⟨w1.heap.size, 0, none⟩ 1 rfl (.slice C n cc) ?_ rfl ?_ ?_ ?_ ?_
       · rfl
       · exact hA1.lst.alloc _
       · simp
       · (simp only [maxLen]; omega)
       · omega
       · (rw [World.size_alloc]; exact Nat.le_succ_of_le hA1.old.size)
       intro g cap w3 hown3 hor hlt3
       obtain ⟨hk3, hg3⟩ := push3_keeps hor
       obtain ⟨d6, g6, z3⟩ := hA1.pushed hk3
       clear hor))
  all_goals
    have hbw := (((Below.refl w.heap.size w).drew).drew).trans hb1
    have HEND := Lib.hid (HLF.out _ _ _ _ _ hbw hc1 hk3 hown3 hg3 hP.out)
    clear d6 g6 z3 hown3 hk3 hg3 hc1 hb1 hA1 e6 hz1
    go_wp2_with fail
    first | go_end0 | refine bodyPost_ret (results_none rfl _ _ _) rfl ?_
    exact ⟨rfl, HEND.out⟩

/-- Between two rounds of the loop. -/
structure SeekMid (w : World) (D : DeadP) (lv : Value) (x : List Nat) (P S : List (List Nat)) (wr : World) (lv' : Value) (rows' : List Value) (L' : List (List Nat)) (more' : Bool) : Prop where
  dead : SeekAt wr D lv' rows' L' more'
  found : RuleP.Found D.most (onP P x S) L' more'
  keeps : Keeps (SeekFoot D lv) w wr
  fresh : ∀ g, lv'.ownBlock = some g → lv.ownBlock = some g ∨ w.heap.size ≤ g
theorem SeekMid.pure {x : List Nat} {P S : List (List Nat)} {wr wz : World} {lv' : Value} {rows' : List Value} {L' : List (List Nat)} {more' : Bool} (h : SeekMid w D lv x P S wr lv' rows' L' more') (hz : Below wr.heap.size wr wz) : SeekMid w D lv x P S wz lv' rows' L' more' :=
  ⟨h.dead.pure hz, h.found, h.keeps.trans (Keeps.of_pure hz _) (fun _ _ h => h), h.fresh⟩
theorem SeekMid.post {x : List Nat} {P S : List (List Nat)} {wr : World} {lv' : Value} {rows' : List Value} {L' : List (List Nat)} {more' : Bool} (h : SeekMid w D lv x P S wr lv' rows' L' more') : SeekPost w D lv x P S wr :=
  ⟨lv', rows', L', more', h.dead, h.found, h.keeps, h.fresh⟩
theorem SeekMid.next {x : List Nat} {P S S' S2 : List (List Nat)} {s : Nat} {wz w' : World} {lv' : Value} {rows' : List Value} {L' : List (List Nat)} {more' : Bool} (h : SeekMid w D lv x P S wz lv' rows' L' more') (hp : SeekPost wz D lv' (x ++ [s]) (onP P x S) S' w') (hit : S2 = S ++ S'.map (s :: ·)) :
    ∃ (lv2 : Value) (rows2 : List Value) (L2 : List (List Nat)) (more2 : Bool), SeekMid w D lv x P S2 w' lv2 rows2 L2 more2 := by
  obtain ⟨lv2, rows2, L2, more2, hd, hf, hk, hfr⟩ := hp
  have hs := h.keeps.size
  refine ⟨lv2, rows2, L2, more2, hd, by rw [hit, ← onP_hit]; exact hf, h.keeps.trans hk (fun b hb hQ => ?_), fun g' hg' => ?_⟩
  · rcases hQ with hQ | hQ
    · exact Or.inl hQ
    · rcases h.fresh b hQ with h' | h'
      · exact Or.inr h'
      · omega
  · rcases hfr g' hg' with h' | h'
    · exact h.fresh g' h'
    · exact Or.inr (by omega)
theorem push_pure {wr wa w3 : World} {e n g cap : Nat} {v : Value} {xs : List Value} (hb : Below wr.heap.size wr wa) (hc : wa.ownsRow wr.heap.size e 1 v n xs) (hor : (v = .slice (some ⟨g, 0, none⟩) n cap ∧ wa.grownBy w3 (some g)) ∨ (wa.heap.size ≤ g ∧ wa.grownBy w3 none)) : Below wr.heap.size wr w3 := by
  rcases hor with ⟨rfl, h⟩ | ⟨_, h⟩
  · exact hb.grown h hb.size (fun q hq => by cases hq; exact (hc.lt g rfl).1)
  · exact hb.grown h hb.size (fun q hq => by cases hq)

theorem step_own {wr W w5 : World} {e n : Nat} {v : Value} {xs : List Value} (hb : Below wr.heap.size wr W) (hb5 : Below W.heap.size W w5) (hc5 : w5.ownsRow W.heap.size e 1 v n xs) : Below wr.heap.size wr w5 ∧ w5.ownsRow wr.heap.size e 1 v n xs := ⟨pure_trans hb hb5, own_base hc5 hb.size⟩

set_option maxRecDepth 100000 in
set_option maxHeartbeats 4000000 in
theorem seek_loop (hD : DeadOk D) {i : Nat} (hi : i < D.W.length) (ih : SeekC D (i + 1)) (h : SeekAt w D lv rows L false) (XA : Option Addr) (xc u : Nat) (x : List Nat) (P : List (List Nat)) (hx : x.length = 2 * D.r + i) (hu : u < D.N) (hF : RuleP.Found D.most P L false)
    (hX : w.ownsRow D.B 3 1 (.slice XA x.length xc) x.length ((ints x).map (Value.int .i64))) (hw : wayB D.k D.N D.t u (D.W.drop i) = true) :
    Calls Tryd.prog 79 #[.pointer (some ⟨D.db, 0, none⟩), .slice XA x.length xc, .int .i64 (u : Int)] w fun e w' => e = .returned (.tuple #[]) ∧ SeekPost w D lv x P (sols D.k D.N D.t u (D.W.drop i)) w' := by
  have hl := hD.len
  have hr3 := hD.rule.r3
  have hdrop := drop_cons hi
  obtain ⟨c, hc⟩ : ∃ c, D.W.getD i 0 = c := ⟨_, rfl⟩
  obtain ⟨V, hV⟩ : ∃ V, D.W.drop (i + 1) = V := ⟨_, rfl⟩
  obtain ⟨c0, c1, c2, c3, c4, c5, c6, c7, f6, f7⟩ := h.facts
  obtain ⟨g0, g, hav, _, v1, v2⟩ := h.ways.reads (Nat.le_of_lt hi) hu
  rw [hav] at c4
  rw [hw] at v2
  rw [hc, hV] at hdrop
  rw [hdrop]
  have HC := Lib.hid hc
  have HV := Lib.hid hV
  have HH := Lib.hid h
  have HXX := Lib.hid hX
  have hst : SeekMid w D lv x P [] w lv rows L false := ⟨h, by rw [onP_nil]; exact hF, Keeps.refl _ _, fun g hg => Or.inl hg⟩
  have HST := Lib.hid hst
  obtain ⟨n, hn⟩ : ∃ n, x.length = n := ⟨_, rfl⟩
  have HN := Lib.hid hn
  have hxl := hx
  rw [hn] at hx ⊢
  have hi2 : (n : Int) - 2 * (D.r : Int) = (i : Int) := by omega
  have hi3 : ((i : Int) == (D.W.length : Int)) = false := by simp; omega
  have hi4 : ¬ i = D.W.length := by omega
  have HXL := Lib.hid hxl
  have hnb : n ≤ 1000 := by omega
  clear h hF hw hst hX hc hV hdrop hn hxl hx
  go_enter Tryd.func79, Tryd.ntmps79
  go_wp2_with fail
  go_loopw [7] (fun sv wr => ∃ (s : Nat) (lv' : Value) (rows' : List Value) (L' : List (List Nat)) (more' : Bool), s ≤ D.k ∧ sv = .int .i64 (s : Int) ∧
      Hid (SeekMid w D lv x P (solsTo D.k D.N D.t u c V s) wr lv' rows' L' more')) (fun sv _ => D.k - (intOf sv).toNat)
  case atStart => exact ⟨0, lv, rows, L, false, Nat.zero_le _, rfl, HST⟩
  case round =>
    obtain ⟨s, lv', rows', L', more', hs, rfl, hM⟩ := hrel
    clear HST c0 c1 c2 c3 c4 c5 c6 c7 f6 f7 v1 v2 hav
    obtain ⟨d0, d1, d2, d3, d4, d5, d6, d7, e6, e7⟩ := hM.out.dead.facts
    have hk1 := hD.rule.k1
    have hk4 := hD.rule.k4
    by_cases hlt : s < D.k
    · have hNk := (nodes_div hD.rule).2
      change D.t.length = D.N * D.k at hNk
      have hN0 : 0 < D.N := by omega
      have hts := hD.small
      have hq1 : u * D.k + s < D.t.length := by
        rw [hNk]
        have : (u + 1) * D.k ≤ D.N * D.k := Nat.mul_le_mul_right _ hu
        rw [Nat.add_mul, Nat.one_mul] at this
        omega
      have hed : (u * D.k + s) % D.N < D.N := Nat.mod_lt _ hN0
      have hhit := solsTo_hit (k := D.k) (N := D.N) (t := D.t) (u := u) (c := c) (s := s) V
      have hmiss := solsTo_miss (k := D.k) (N := D.N) (t := D.t) (u := u) (c := c) (s := s) V
      obtain ⟨q, hq⟩ : ∃ q, u * D.k = q := ⟨_, rfl⟩
      have hqi : IntKind.i64.wrap ((u : Int) * (D.k : Int)) = (q : Int) := by
        rw [show (u : Int) * (D.k : Int) = (q : Int) by rw [← hq]; simp]
        exact IntWalk.i64_in _ (by omega)
      rw [hq] at hq1 hed hhit hmiss
      obtain ⟨e, hee⟩ : ∃ e, q + s = e := ⟨_, rfl⟩
      have hei : IntKind.i64.wrap ((q : Int) + (s : Int)) = (e : Int) := by
        rw [show (q : Int) + (s : Int) = (e : Int) by omega]
        exact IntWalk.i64_in _ (by omega)
      rw [hee] at hq1 hed hhit hmiss
      clear hq hee hNk
      obtain ⟨ta, hta, htc⟩ := int_eq_cell (hM.out.dead.tab hD) hq1
      obtain ⟨wa, hwa, hwc⟩ := int_eq_cell (hM.out.dead.word hD) hi
      rw [HC.out] at hwc
      rw [hta] at d2
      rw [hwa] at d3
      have he0 : (0 : Int) ≤ (e : Int) := by omega
      have he1 : (e : Int) < (D.t.length : Int) := by omega
      have hi0 : (0 : Int) ≤ (i : Int) := by omega
      have hi1 : (i : Int) < (D.W.length : Int) := by omega
      by_cases hhc : D.t.getD e 0 = c
      · have hhit := hhit hhc
        rw [hhc] at htc
        have hcc : ((c : Int) == (c : Int)) = true := by simp
        obtain ⟨ga, gb, hav, hG, hgl, hgc⟩ := hM.out.dead.ways.first
        rw [hav] at d4
        have HRD := Lib.hid (fun (wz : World) (hz : Below wr.heap.size wr wz) => (⟨(hM.out.dead.pure hz).facts.1, (by have := (hM.out.dead.pure hz).facts.2.2.2.2.1; rw [hav] at this; exact this), cell_later hz hgc, Nat.lt_of_lt_of_le hM.out.dead.lt hz.size, Nat.lt_of_lt_of_le hgl hz.size⟩ :
          wz.cell? ⟨D.db, 0, none⟩ = some (.int .i64 (D.k : Int)) ∧ wz.cell? ⟨D.db, 4, none⟩ = some (.slice (some ⟨ga, 0, none⟩) (D.W.length + 1) (D.W.length + 1)) ∧ wz.cell? ⟨ga, 0, none⟩ = some (.slice (some ⟨gb, 0, none⟩) D.N D.N) ∧ D.db < wz.heap.size ∧ ga < wz.heap.size))
        have HXS := Lib.hid (fun (wz : World) (hz : Below wr.heap.size wr wz) => (by
          have h1 := Sl.of_own (own_below (HH.out.own HXX.out hM.out.keeps) hz)
          rw [HN.out] at h1
          exact h1 : Sl wz XA n ((ints x).map (Value.int .i64))))
        have HIH := Lib.hid (fun (wz : World) (g3 cap : Nat) (hz : Below wr.heap.size wr wz) (ho : wz.ownsRow wr.heap.size 3 1 (.slice (some ⟨g3, 0, none⟩) (n + 1) cap) (n + 1) ((ints x).map (Value.int .i64) ++ [.int .i64 (s : Int)])) => (by
          have h1 := hM.out.pure hz
          have hl2 : (x ++ [s]).length = n + 1 := by rw [List.length_append, HN.out]; rfl
          rw [ints_snoc] at ho
          have hc1 := ih wz lv' rows' L' more' (some ⟨g3, 0, none⟩) cap (e % D.N) (x ++ [s]) _ h1.dead (by rw [hl2]; exact own_base ho hM.out.dead.old.size) (by rw [List.length_append, HXL.out]; rfl) hed h1.found
          rw [hl2, HV.out] at hc1
          refine hc1.mono ?_
          rintro e1 w1 ⟨rfl, hp⟩
          obtain ⟨lv2, rows2, L2, more2, hm2⟩ := h1.next hp hhit
          exact ⟨rfl, lv2, rows2, L2, more2, hm2, hm2.dead.facts.1, by have := hm2.dead.facts.2.2.2.2.1; rw [hav] at this; exact this, by
            obtain ⟨g2, g4, e2, e3, _, e5⟩ := hm2.dead.ways.first
            rw [hav] at e2
            rw [hG] at e3
            cases e2
            cases e3
            exact e5⟩ : Calls Tryd.prog 79 #[.pointer (some ⟨D.db, 0, none⟩), .slice (some ⟨g3, 0, none⟩) (n + 1) cap, .int .i64 ((e % D.N : Nat) : Int)] wz fun e1 w1 => e1 = .returned (.tuple #[]) ∧ ∃ (lv2 : Value) (rows2 : List Value) (L2 : List (List Nat)) (more2 : Bool), SeekMid w D lv x P (solsTo D.k D.N D.t u c V (s + 1)) w1 lv2 rows2 L2 more2 ∧
              w1.cell? ⟨D.db, 0, none⟩ = some (.int .i64 (D.k : Int)) ∧ w1.cell? ⟨D.db, 4, none⟩ = some (.slice (some ⟨ga, 0, none⟩) (D.W.length + 1) (D.W.length + 1)) ∧ w1.cell? ⟨ga, 0, none⟩ = some (.slice (some ⟨gb, 0, none⟩) D.N D.N)))
        have n0 : ¬ D.N = 0 := by omega
        have n1 : ¬ ((D.N : Int) = 0) := by omega
        have n2 : ((D.N : Int) == 0) = false := by simp; omega
        have n4 : (e : Int).tmod (D.N : Int) = ((e % D.N : Nat) : Int) := rfl
        have n5 : IntKind.i64.wrap ((e % D.N : Nat) : Int) = ((e % D.N : Nat) : Int) := by
          have hml : e % D.N ≤ e := Nat.mod_le _ _
          generalize e % D.N = z at hml
          exact IntWalk.i64_in _ (by omega)
        clear hhit hmiss hav hG hgc hhc hta hwa
        go_wp2_with fail
        go_quiet (fail)
        have HBA := Lib.hid (fun (nq : Nat) => pure_drewN wr nq)
        have HBB := Lib.hid (fun (nq : Nat) => (pure_drewN wr nq).alloc (pure_drewN wr nq).size (.cells #[.int .i64 (s : Int)] 3))
        have HBC := Lib.hid (fun (nq : Nat) => below_drewN ((Below.refl wr.heap.size wr).alloc (Nat.le_refl _) (.cells #[.int .i64 (s : Int)] 3)) nq)
        have HBOX := Lib.hid (fun (nq : Nat) => (cell_of_row _ wr.heap.size 0 _ _ _ (heap_new (wr.drewN nq) (.cells #[.int .i64 (s : Int)] 3))).trans rfl)
        have HBOY := Lib.hid (fun (nq : Nat) => ((cell_of_row _ wr.heap.size 0 _ _ _ (heap_new wr (.cells #[.int .i64 (s : Int)] 3))).trans rfl : ((wr.alloc (.cells #[.int .i64 (s : Int)] 3)).drewN nq).cell? ⟨wr.heap.size, 0, none⟩ = some (.int .i64 (s : Int))))
        have z0 := HRD.out wr (Below.refl _ _)
        obtain ⟨x0, x1, x2, x3, x4⟩ := z0
        clear d0 d1 d2 d3 d4 d5 d6 d7 e6 e7 htc hwc hM
        go_wp2_with fail
        go_region_held3 (fun w' => w'.cell? ⟨D.db, 0, none⟩ = some (.int .i64 (D.k : Int)) ∧ w'.cell? ⟨D.db, 4, none⟩ = some (.slice (some ⟨ga, 0, none⟩) (D.W.length + 1) (D.W.length + 1)) ∧ w'.cell? ⟨ga, 0, none⟩ = some (.slice (some ⟨gb, 0, none⟩) D.N D.N))
          (first | (refine ⟨?_, ?_, ?_⟩ <;> assumption) | go_keep)
          (first
            | (go_at_call 34
               refine (copy_c _ XA n xc ((ints x).map (Value.int .i64)) ?_ (ints_one _) ?_).mono ?_
               · first | (with_reducible exact HXS.out _ (HBA.out _)) | (with_reducible exact HXS.out _ (HBB.out _)) | (with_reducible exact HXS.out _ (HBC.out _))
               · omega
               rintro e5 w5 ⟨C, cc, rfl, hc5, hb5⟩
               first
                 | (with_reducible have hbc := step_own (HBA.out _) hb5 hc5)
                 | (with_reducible have hbc := step_own (HBB.out _) hb5 hc5
                    with_reducible have hcB := cell_later hb5 (HBOX.out _))
                 | (with_reducible have hbc := step_own (HBC.out _) hb5 hc5
                    with_reducible have hcB := cell_later hb5 (HBOY.out _))
               obtain ⟨hb6, hc6⟩ := hbc
               obtain ⟨y0, y1, y2, y3, y4⟩ := HRD.out w5 hb6)
            | (go_at_call 79
               refine (HIH.out _ _ _ hb7 hown3).mono ?_
               rintro e8 w8 ⟨rfl, lv2, rows2, L2, more2, hm2, u0, u1, u2⟩)
            | (refine step_push3 ?_ (.tmp 100) (.tmp 102) 22 rfl tInts (base := wr.heap.size) (v := .slice C n cc) (n := n) (xs := (ints x).map (Value.int .i64)) ?_ rfl _ _ rfl (.int .i64 (s : Int)) ?_ rfl ?_ ?_ ?_ ?_
               · rfl
               · first | (with_reducible exact hc6) | (with_reducible exact hc6.alloc _)
               · first | (with_reducible exact hcB) | exact hcB | simp
               · (simp only [maxLen]; omega)
               · omega
               · first | (with_reducible exact hb6.size) | (rw [World.size_alloc]; exact Nat.le_succ_of_le hb6.size)
               intro g3 cap3 w3 hown3 hor hlt3
               first
                 | (with_reducible have hb7 := push_pure hb6 hc6 hor)
                 | (with_reducible have hb7 := push_pure (hb6.alloc hb6.size _) (hc6.alloc _) hor)
               obtain ⟨v0, v1, v2, v3, v4⟩ := HRD.out w3 hb7
               clear hor)
            | fail)
        all_goals
          have HM2 := Lib.hid hm2
          clear hm2 u0 u1 u2 v0 v1 v2 v3 v4 y0 y1 y2 y3 y4 hb5 hb6 hb7 hc5 hc6 hown3 HIH HRD HXS HBA HBB HBC HBOX HBOY
          go_wp2_with fail
          exact ⟨⟨s + 1, lv2, rows2, L2, more2, by omega, by go_num, HM2⟩, by simp [intOf]; omega⟩
      · have hmiss := hmiss hhc
        obtain ⟨yv, hyv⟩ : ∃ yv, D.t.getD e 0 = yv := ⟨_, rfl⟩
        rw [hyv] at htc hhc
        have hcc : ((yv : Int) == (c : Int)) = false := by simp; omega
        have hM2 := hM.out
        rw [← hmiss] at hM2
        have HM2 := Lib.hid (fun (wz : World) (hz : Below wr.heap.size wr wz) => hM2.pure hz)
        clear hM2 hmiss hhit hyv hhc hM hta hwa
        go_wp2_with fail
        go_quiet (fail)
        go_wp2_with fail
        exact ⟨⟨s + 1, lv', rows', L', more', by omega, by go_num, Lib.hid (HM2.out _ (pure_drewN _ _))⟩, by simp [intOf]; omega⟩
    · obtain rfl : s = D.k := by omega
      have hM2 := hM.out
      rw [solsTo_all] at hM2
      have HM2 := Lib.hid hM2.post
      clear hM2 hM
      go_wp2_with fail
      first | go_end0 | refine bodyPost_ret (results_none rfl _ _ _) rfl ?_
      exact ⟨rfl, HM2.out⟩
end Go.Proofs.YtfgjcdfmlpdkaaaDoor
