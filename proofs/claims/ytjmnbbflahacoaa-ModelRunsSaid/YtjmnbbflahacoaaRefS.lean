/- The document's States, walked. No condition. -/
import Derived.Test.YtjmnbbflahacoaaRefD
import Derived.Test.YtjmnbbflahacoaaModR
import Derived.Test.YtjmnbbflahacoaaLate
namespace Go.Proofs.Ytjmnbbflahacoaa.Model
open Go.RowKit Go.Proofs.Ytjmnbbflahacoaa.Mem Go.Proofs.Ytjmnbbflahacoaa.Hist Go.Proofs.Ytjmnbbflahacoaa.PHistTells Go.Proofs.YtjmnbbflahacoaaW.PrintWords
set_option linter.unusedVariables false
set_option linter.unusedSimpArgs false

/-- A row of numbers, somebody's: where it lies. -/
structure IsRow (W : World) (base : Nat) (x : Value) (s : List Int) : Prop where
  ex : ∃ A c, x = .slice A s.length c ∧ s.length ≤ c ∧ kI.C W A s.length s ∧ ∀ ad, A = some ad → s ≠ [] → ad.block < base ∨ Typed W ad.block 2
theorem ints_move {W W' : World} {A : Option Addr} {xs : List Int} (h : kI.C W A xs.length xs) (hm : ∀ ad, A = some ad → xs ≠ [] → W'.heap[ad.block]? = W.heap[ad.block]?) : kI.C W' A xs.length xs := by
  obtain ⟨h1, h2, h3⟩ := h
  refine ⟨h1, h2, fun hp => ?_⟩
  obtain ⟨ad, rfl, hc⟩ := h3 hp
  refine ⟨ad, rfl, fun j p hj => ?_⟩
  obtain ⟨c, e1, e2, e3⟩ := hc j p hj
  refine ⟨c, e1, e2, fun i u hi => ?_⟩
  have hb := hm ad rfl (by intro hn; subst hn; simp at hp)
  exact (World.cell?_of_block (w := W) (a := ad.add (j * kI.sz + i)) (by rw [show (ad.add (j * kI.sz + i)).block = ad.block by unfold Addr.add; split <;> rfl]; exact hb)).trans (e3 i u hi)
theorem IsRow.below {W W' : World} {base : Nat} {x : Value} {s : List Int} (h : IsRow W base x s) (hb : Below W.heap.size W W') : IsRow W' base x s := by
  obtain ⟨A, c, hx, hl, hC, ht⟩ := h.ex
  refine ⟨A, c, hx, hl, Kd.C_below hC hb, fun ad ha hs => ?_⟩
  rcases ht ad ha hs with h | h
  · exact .inl h
  · obtain ⟨cells, hc⟩ := h
    exact .inr ⟨cells, (hb.block _ (Array.getElem?_eq_some_iff.1 hc).1).trans hc⟩
theorem IsRow.grown {W W' : World} {base g : Nat} {x : Value} {s : List Int} (h : IsRow W base x s) (hg : ∀ k, k < W.heap.size → k ≠ g → W'.heap[k]? = W.heap[k]?) (hb : base ≤ g) (hT : Typed W g 47) (hz : base ≤ W.heap.size) : IsRow W' base x s := by
  obtain ⟨A, c, hx, hl, hC, ht⟩ := h.ex
  have key : ∀ ad, A = some ad → s ≠ [] → W'.heap[ad.block]? = W.heap[ad.block]? := fun ad ha hs => by
    rcases ht ad ha hs with h | h
    · exact hg _ (by omega) (by omega)
    · refine hg _ (typed_lt h) (fun he => ?_)
      have := h.ne (by rw [← he] at hT; exact hT) 
      simp at this
  refine ⟨A, c, hx, hl, ints_move hC key, fun ad ha hs => ?_⟩
  rcases ht ad ha hs with h | h
  · exact .inl h
  · obtain ⟨cells, hc⟩ := h
    exact .inr ⟨cells, (key ad ha hs).trans hc⟩

/-- A row of rows of numbers, the outer one the call's own. -/
structure Views (W : World) (base : Nat) (v : Value) (ss : List (List Int)) : Prop where
  ex : ∃ vals : List Value, (Kd.raw 1).R 47 W base (fun _ => True) v (vals.map fun x => [x]) ∧ vals.length = ss.length ∧ ∀ (i : Nat) x s, vals[i]? = some x → ss[i]? = some s → IsRow W base x s
theorem Views.below {W W' : World} {base : Nat} {v : Value} {ss : List (List Int)} (h : Views W base v ss) (hb : Below W.heap.size W W') : Views W' base v ss := by
  obtain ⟨vals, hR, hl, hv⟩ := h.ex
  exact ⟨vals, Kd.R_below hR hb, hl, fun i x s hx hs => (hv i x s hx hs).below hb⟩
theorem Views.cells {W : World} {base : Nat} {v : Value} {ss : List (List Int)} (h : Views W base v ss) (k : Nat) (hk : k < ss.length) :
    ∃ g c Ak ck, v = .slice (some ⟨g, 0, none⟩) ss.length c ∧ ss.length ≤ c ∧ W.cell? ⟨g, k, none⟩ = some (.slice Ak ss[k].length ck) ∧ kI.C W Ak ss[k].length ss[k] := by
  obtain ⟨vals, hR, hl, hv⟩ := h.ex
  have hk' : k < (vals.map fun x => [x]).length := by simpa [hl] using hk
  obtain ⟨g, cap, he, _, _, _⟩ := Kd.R_form hR (by omega)
  subst he
  have hrd := (Kd.R_reads' hR)
  obtain ⟨cs, hcl, hM, hcc, hfr⟩ := Kd.R_elem hR [] (k : Int) (by omega) (by omega)
  simp only [Int.toNat_natCast, List.getD_eq_getElem?_getD, List.getElem?_eq_getElem hk', Option.getD_some] at hM hcc
  have hkv : k < vals.length := by omega
  have hcs : cs = [vals[k]] := by have := hM.1; simpa using this
  subst hcs
  obtain ⟨A, c, hx, _, hC, _⟩ := (hv k vals[k] ss[k] (List.getElem?_eq_getElem hkv) (List.getElem?_eq_getElem hk)).ex
  have h0 := hcc 0 _ rfl
  have e1 : k * (Kd.raw 1).sz + 0 = k := by show k * 1 + 0 = k; omega
  rw [e1, hx] at h0
  have hlen : (vals.map fun x => [x]).length = ss.length := by simpa using hl
  rw [hlen] at hrd ⊢
  exact ⟨g, cap, A, c, rfl, hrd.2.1, h0, hC⟩
theorem Views.reads {W : World} {base : Nat} {v : Value} {ss : List (List Int)} (h : Views W base v ss) : ∃ A c, v = .slice A ss.length c ∧ ss.length ≤ c ∧ kS.C W A ss.length ss := by
  obtain ⟨vals, hR, hl, hv⟩ := h.ex
  obtain ⟨A, c, he, hc, hC⟩ := Kd.R_reads hR
  have hlen : (vals.map fun x => [x]).length = ss.length := by simpa using hl
  rw [hlen] at he hc hC
  refine ⟨A, c, he, hc, ?_⟩
  obtain ⟨h1, h2, h3⟩ := hC
  refine ⟨rfl, h2, fun hp => ?_⟩
  obtain ⟨ad, e, hcc⟩ := h3 hp
  refine ⟨ad, e, fun j s hj => ?_⟩
  have hjl := (List.getElem?_eq_some_iff.1 hj).1
  have hjv : j < vals.length := by omega
  obtain ⟨cs, e1, e2, e3⟩ := hcc j [vals[j]] (by simp [List.getElem?_eq_getElem hjv])
  have hcs : cs = [vals[j]] := e2.1
  subst hcs
  obtain ⟨A', c', hx, hl', hC', _⟩ := (hv j vals[j] s (List.getElem?_eq_getElem hjv) hj).ex
  exact ⟨[vals[j]], rfl, ⟨A', c', by rw [hx], hl', hC'⟩, e3⟩
theorem views_start (w : World) (Av : Option Addr) (cv : Nat) (first : List Int) (hF : kI.C w Av first.length first) (hcv : first.length ≤ cv) (hlow : ∀ ad, Av = some ad → first ≠ [] → ad.block < w.heap.size) :
    Views (w.alloc (.cells #[.slice Av first.length cv] 47)) w.heap.size (.slice (some ⟨w.heap.size, 0, none⟩) 1 1) [first] := by
  refine ⟨[.slice Av first.length cv], ?_, rfl, fun i x s hx hs => ?_⟩
  · exact R_lit1 (d := Kd.raw 1) (e := 47) (x := [.slice Av first.length cv]) (cs := [.slice Av first.length cv]) (ok := fun _ => True) (W := w) (base := w.heap.size) ⟨rfl, rfl, by simp [Value.oneCell']⟩ (Nat.le_refl _)
  · have h0 : i = 0 := by have := (List.getElem?_eq_some_iff.1 hx).1; simp at this; omega
    subst h0
    simp only [List.getElem?_cons_zero, Option.some.injEq] at hx hs
    subst hx hs
    exact ⟨Av, cv, rfl, hcv, Kd.C_below hF ((Below.refl _ _).alloc (Nat.le_refl _) _), fun ad ha hs => .inl (hlow ad ha hs)⟩
theorem views_append {W w6 : World} {base : Nat} {v v1 x : Value} {vals : List Value} {ss : List (List Int)} {s : List Int} (hR0 : (Kd.raw 1).R 47 W base (fun _ => True) v (vals.map fun x => [x])) (hl : vals.length = ss.length) (hv : ∀ (i : Nat) x s, vals[i]? = some x → ss[i]? = some s → IsRow W base x s) (hx : IsRow W base x s)
    (hR : (Kd.raw 1).R 47 w6 base (fun _ => True) v1 ((vals.map fun x => [x]) ++ [[x]])) (hg : W.grownBy w6 v.ownBlock) (hz : base ≤ W.heap.size) : Views w6 base v1 (ss ++ [s]) := by
  have hgr : ∀ y r, IsRow W base y r → IsRow w6 base y r := fun y r hy => by
    cases hv0 : v.ownBlock with
    | none =>
      rw [hv0] at hg
      refine hy.below ⟨hg.os, hg.tape, hg.output, hg.size, fun k hk => hg.block k hk (by simp)⟩
    | some g =>
      rw [hv0] at hg
      obtain ⟨inner, ho⟩ := Kd.R_own hR0
      exact hy.grown (g := g) (fun k hk hn => hg.block k hk (fun he => hn (by injection he))) (own_base ho g hv0) (row_typed hR0 hv0) hz
  refine ⟨vals ++ [x], by simpa using hR, by simp [hl], fun i y r hy hr => ?_⟩
  by_cases hi : i < vals.length
  · rw [List.getElem?_append_left hi] at hy
    rw [List.getElem?_append_left (by omega)] at hr
    exact hgr _ _ (hv i y r hy hr)
  · have hi' := (List.getElem?_eq_some_iff.1 hy).1
    simp only [List.length_append, List.length_singleton] at hi'
    have hie : i = vals.length := by omega
    subst hie
    rw [List.getElem?_append_right (Nat.le_refl _), Nat.sub_self] at hy
    rw [hl, List.getElem?_append_right (Nat.le_refl _), Nat.sub_self] at hr
    simp only [List.getElem?_cons_zero, Option.some.injEq] at hy hr
    subst hy hr
    exact hgr _ _ hx
theorem row_is {W : World} {base b' : Nat} {v : Value} {s : List Int} (h : kI.R 2 W b' (fun _ => True) v s) : IsRow W base v s := by
  obtain ⟨A, c, rfl, hl, hC⟩ := Kd.R_reads h
  refine ⟨A, c, rfl, hl, hC, fun ad ha hs => .inr ?_⟩
  subst ha
  obtain ⟨g, cap, he, _, _, _⟩ := Kd.R_form h (List.length_pos_iff.2 hs)
  injection he with he _ _
  injection he with he
  subst he
  exact row_typed h rfl

theorem commits_ex (l : List Ev) : ∃ cs, CommitsOf l cs := ⟨(ended l).mergeSort (fun a b => decide (a.f5 ≤ b.f5)), List.mergeSort_perm _ _, by
  have := List.pairwise_mergeSort (le := fun a b : Tr => decide (a.f5 ≤ b.f5)) (by intro a b c; simp; omega) (by intro a b; simp; omega) (ended l)
  exact this.imp (fun h => by simpa using h)⟩
theorem commits_of_right {l : List Ev} (h : rightM l = true) : commitsM l = rcommits l := by
  obtain ⟨cs, hcs⟩ := commits_ex l
  rw [← commits_is hcs, commits_eq h hcs]
theorem commitsM_wrong {l : List Ev} (h : rightM l = false) : commitsM l = [] := by
  unfold commitsM
  rw [triesM_wrong h]
  simp
theorem commitsM_short {l : List Ev} (hl : l.length ≤ 1000) : (commitsM l).length ≤ 1000 := by
  obtain ⟨cs, hcs⟩ := commits_ex l
  rw [← commits_is hcs]
  exact commits_short hl hcs
/-- A row's try of the document: its cells, and its accesses. -/
theorem rt_full {w : World} {base : Nat} {v : Value} {ts : List Tr} (h : kRt.R 43 w base (fun _ => True) v ts) (k : Nat) (hk : k < ts.length) :
    ∃ g n c A8 c8, v = .slice (some ⟨g, 0, none⟩) n c ∧ kAcc.C w A8 ts[k].f8.length ts[k].f8 ∧
      w.cell? ⟨g, k * 9, none⟩ = some (.int .i64 ts[k].f0) ∧ w.cell? ⟨g, k * 9 + 1, none⟩ = some (.int .i64 ts[k].f1) ∧ w.cell? ⟨g, k * 9 + 2, none⟩ = some (.int .i64 ts[k].f2) ∧ w.cell? ⟨g, k * 9 + 3, none⟩ = some (.int .i64 ts[k].f3) ∧
      w.cell? ⟨g, k * 9 + 4, none⟩ = some (.int .i64 ts[k].f4) ∧ w.cell? ⟨g, k * 9 + 5, none⟩ = some (.int .i64 ts[k].f5) ∧ w.cell? ⟨g, k * 9 + 6, none⟩ = some (.int .i64 ts[k].f6) ∧ w.cell? ⟨g, k * 9 + 7, none⟩ = some (.bool ts[k].f7) ∧ w.cell? ⟨g, k * 9 + 8, none⟩ = some (.slice A8 ts[k].f8.length c8) := by
  obtain ⟨g, n, c, row, hv, hM, ⟨A8, c8, rfl⟩, q⟩ := rt_elem h (Below.refl _ _) k hk
  obtain ⟨v8, he, hr⟩ := kRt_openM hM
  have h8 : v8 = .slice A8 ts[k].f8.length c8 := by
    unfold trC at he
    injection he with _ he; injection he with _ he; injection he with _ he; injection he with _ he; injection he with _ he; injection he with _ he; injection he with _ he; injection he with _ he; injection he with he _
    exact he.symm
  subst h8
  obtain ⟨A', c', he', _, hC⟩ := Kd.R_reads hr
  injection he' with e1 _ _
  subst e1
  exact ⟨g, n, c, A8, c8, hv, hC, q⟩

theorem foldM_is (first : List Int) (cs : List Tr) (i : Nat) (h : i < (stsUpTo first cs i).length) : (stsUpTo first cs i)[i] = foldM first (cs.take i) := by
  have h1 : (stsUpTo first cs i)[i]? = some (foldM first (cs.take i)) := by
    unfold stsUpTo
    cases i with
    | zero => rfl
    | succ n => simp
  rw [List.getElem?_eq_getElem h] at h1
  injection h1
/-- What the loop over the commits keeps. -/
structure StAt (w W : World) (first : List Int) (cs : List Tr) (Ac : Option Addr) (cc : Nat) (i : Nat) (v : Value) : Prop where
  out : Views W w.heap.size v (stsUpTo first cs i)
  cs : kRt.R 43 W w.heap.size (fun _ => True) (.slice Ac cs.length cc) cs
  below : Below w.heap.size w W
theorem StAt.step {w W W' : World} {first : List Int} {cs : List Tr} {Ac : Option Addr} {cc i : Nat} {v : Value} (h : StAt w W first cs Ac cc i v) (hb : Below W.heap.size W W') : StAt w W' first cs Ac cc i v :=
  ⟨h.out.below hb, Kd.R_below h.cs hb, below_of h.below hb⟩
/-- A row of the document's tries where another kind of row has grown. -/
theorem rt_grown {W W' : World} {base : Nat} {u v : Value} {ts : List Tr} (h : kRt.R 43 W base (fun _ => True) v ts) (hg : W.grownBy W' u.ownBlock) (hT : ∀ g, u.ownBlock = some g → Typed W g 47) : kRt.R 43 W' base (fun _ => True) v ts :=
  Kd.R_mono (Kd.R_move (Kd.R_bound h) (fun k hk => by
    obtain ⟨_, _, _, q, hq, cells, hc⟩ := hk
    have hq' : q = 43 ∨ q = 94 := by simpa [kRt, kAcc, k33, Kd.iso, Kd.pair, Kd.int, Kd.bool, Kd.scalar, Kd.slice] using hq
    refine hg.block k (Array.getElem?_eq_some_iff.1 hc).1 (fun he => ?_)
    have := (hT k he.symm).ne ⟨cells, hc⟩
    rcases hq' with rfl | rfl <;> simp at this)) (fun _ _ => trivial)
theorem st_append {w W w6 : World} {first : List Int} {cs : List Tr} {Ac : Option Addr} {cc i : Nat} {v v1 x : Value} {vals : List Value} (h : StAt w W first cs Ac cc i v)
    (hR0 : (Kd.raw 1).R 47 W w.heap.size (fun _ => True) v (vals.map fun x => [x])) (hl : vals.length = (stsUpTo first cs i).length) (hv : ∀ (j : Nat) x s, vals[j]? = some x → (stsUpTo first cs i)[j]? = some s → IsRow W w.heap.size x s) (hx : IsRow W w.heap.size x (foldM first (cs.take (i + 1))))
    (hR : (Kd.raw 1).R 47 w6 w.heap.size (fun _ => True) v1 ((vals.map fun x => [x]) ++ [[x]])) (hg : W.grownBy w6 v.ownBlock) (hb : Below w.heap.size w w6) : StAt w w6 first cs Ac cc (i + 1) v1 := by
  refine ⟨?_, rt_grown h.cs hg (fun g hv0 => row_typed hR0 hv0), hb⟩
  rw [stsUpTo_next]
  exact views_append hR0 hl hv hx hR hg h.below.size

set_option maxHeartbeats 16000000 in
set_option maxRecDepth 100000 in
theorem refstates_any (w : World) (A : Option Addr) (c : Nat) (l : List Ev) (Av : Option Addr) (cv : Nat) (first : List Int) (hC : kEv.C w A l.length l) (hc : l.length ≤ c) (hl : l.length ≤ 1000) (hF : kI.C w Av first.length first) (hcv : first.length ≤ cv) (hfl : first.length ≤ 1000000) (hlow : ∀ ad, Av = some ad → first ≠ [] → ad.block < w.heap.size) :
    Calls Try.prog 32 #[.slice Av first.length cv, .slice A l.length c] w
      fun e W' => ∃ B d, e = .returned (.slice B (stsM first l).length d) ∧ (stsM first l).length ≤ d ∧ kS.C W' B (stsM first l).length (stsM first l) ∧ Below w.heap.size w W' := by
  have HC := Veil.mk hC
  have HCC := Veil.mk hc
  have HL := Veil.mk hl
  have HFL := Veil.mk hfl
  have HVS := Veil.mk (views_start w Av cv first hF hcv hlow)
  have HB0 := Veil.mk ((Below.refl w.heap.size w).alloc (Nat.le_refl _) (.cells #[.slice Av first.length cv] 47))
  have HRT := Veil.mk (refright_any (w.alloc (.cells #[.slice Av first.length cv] 47)) A c l (Kd.C_below hC HB0.out) hc (by omega))
  clear hC hc hF hcv hfl hlow hl
  cases hr : rightM l with
  | false =>
    have HM : Veil (stsM first l = [first]) := ⟨by unfold stsM; rw [commitsM_wrong hr]; rfl⟩
    rw [hr] at HRT
    rw [HM.out]
    clear hr HM
    go_enter Try.func32, Try.ntmps32
    go_wp2_with (first | (go_at_call 24; go_must (refine HRT.out.mono ?_; rintro ed w2 ⟨rfl, hb⟩; have HV2 := Veil.mk (HVS.out.below hb); have HB2 := Veil.mk (below_of HB0.out hb); clear hb)))
    go_ret
    obtain ⟨B, d, he, hd, hk⟩ := HV2.out.reads
    injection he with e1 e2 e3
    subst e1 e3
    exact ⟨_, _, rfl, hd, hk, HB2.out⟩
  | true =>
    have HRC := Veil.mk (fun (W : World) (h : kEv.C W A l.length l) => refcommits_any W A c l h HL.out)
    have HE : Veil (rcommits l = commitsM l) := ⟨(commits_of_right hr).symm⟩
    have HCL : Veil ((commitsM l).length ≤ 1000) := ⟨commitsM_short HL.out⟩
    have HAC : Veil (∀ t ∈ commitsM l, t.f8.length ≤ 1000000) := ⟨fun t ht => Nat.le_trans (commitsM_acc l t ht) (Nat.le_trans HL.out (by decide))⟩
    have HM : Veil (stsM first l = stsUpTo first (commitsM l) (commitsM l).length) := ⟨rfl⟩
    rw [hr] at HRT
    rw [HE.out] at HRC
    rw [HM.out]
    obtain ⟨cs, hcs⟩ : ∃ cs, commitsM l = cs := ⟨_, rfl⟩
    rw [hcs] at HRC HCL HAC ⊢
    clear hr HM HE hcs
    go_enter Try.func32, Try.ntmps32
    go_wp2_with (first | (go_at_call 24; go_must (refine HRT.out.mono ?_; rintro ed w2 ⟨rfl, hb⟩; have HV2 := Veil.mk (HVS.out.below hb); have HB2 := Veil.mk (below_of HB0.out hb); clear hb)) | (go_at_call 28; go_must (refine (HRC.out _ (Kd.C_below HC.out HB2.out)).mono ?_; rintro ed w3 ⟨v, rfl, hv, hb⟩; obtain ⟨Ac, cc, rfl, _, _⟩ := Kd.R_reads hv; have HSA : Veil (StAt w w3 first cs Ac cc 0 (.slice (some ⟨w.heap.size, 0, none⟩) 1 1)) := ⟨HV2.out.below hb, Kd.R_lower hv HB2.out.size, below_of HB2.out hb⟩; clear hv hb)))
    go_loopw [5, 7] (fun v5 v7 wr => ∃ (i : Nat) (B : Option Addr) (d : Nat), i ≤ cs.length ∧ v7 = .int .i64 i ∧ v5 = .slice B (i + 1) d ∧ Veil (StAt w wr first cs Ac cc i (.slice B (i + 1) d))) (fun _ v7 _ => cs.length - (intOf v7).toNat)
    case atStart => exact ⟨0, _, _, Nat.zero_le _, rfl, rfl, HSA⟩
    case round =>
      obtain ⟨i, B, d, hi, rfl, rfl, HS⟩ := hrel
      have hcl := HCL.out
      by_cases hlt : i < cs.length
      · as_aux_lemma =>
        have d1 : decide ((i : Int) < (cs.length : Int)) = true := decide_eq_true (by omega)
        have d2 : (i : Int) < (cs.length : Int) := by omega
        have hsl : i < (stsUpTo first cs i).length := by rw [stsUpTo_length]; omega
        obtain ⟨g, cg, Ak, ck, he, _, s0, hk⟩ := HS.out.out.cells i hsl
        injection he with e1 e2 e3
        subst e1 e3
        clear e2
        rw [foldM_is] at s0 hk
        obtain ⟨g2, n2, c2, A8, c8, hve, hac, q0, q1, q2, q3, q4, q5, q6, q7, q8⟩ := rt_full HS.out.cs i hlt
        injection hve with e1 e2 e3
        subst e1 e2 e3
        have HN := Veil.mk (foldM_next first cs hlt)
        have HAK := Veil.mk (HAC.out cs[i] (List.getElem_mem hlt))
        have HFF := Veil.mk (foldM_length (cs.take i) first)
        have HST := Veil.mk (fun (w6 : World) (v v1 x : Value) (vals : List Value) (W : World) (h : StAt w W first cs (some ⟨g2, 0, none⟩) cc i v) => st_append (w6 := w6) (v1 := v1) (x := x) (vals := vals) h)
        have hlen : (stsUpTo first cs i).length = i + 1 := stsUpTo_length _ _ _
        obtain ⟨t, ht⟩ : ∃ t, cs[i] = t := ⟨_, rfl⟩
        rw [ht] at HN HAK hac q0 q1 q2 q3 q4 q5 q6 q7 q8
        obtain ⟨cur, hcur⟩ : ∃ cur, foldM first (cs.take i) = cur := ⟨_, rfl⟩
        rw [hcur] at HN HFF s0 hk
        have i1 : (i : Int) < (i : Int) + 1 := by omega
        have i2 : i < i + 1 := by omega
        have HK := Veil.mk hk
        have HAA := Veil.mk hac
        clear ht hcur hsl hk hac hlen
        obtain ⟨y, hy⟩ : ∃ y, foldM first (cs.take (i + 1)) = y := ⟨_, rfl⟩
        rw [hy] at HN HST
        have HYL : Veil (y.length = first.length) := ⟨by rw [← hy, foldM_length]⟩
        clear hy
        go_wp2_with fail
        refine wp_region_X (fun w' => w'.cell? ⟨g, i, none⟩ = some (.slice Ak cur.length ck) ∧ w'.cell? ⟨g2, i * 9, none⟩ = some (.int .i64 t.f0) ∧ w'.cell? ⟨g2, i * 9 + 1, none⟩ = some (.int .i64 t.f1) ∧ w'.cell? ⟨g2, i * 9 + 2, none⟩ = some (.int .i64 t.f2) ∧ w'.cell? ⟨g2, i * 9 + 3, none⟩ = some (.int .i64 t.f3) ∧ w'.cell? ⟨g2, i * 9 + 4, none⟩ = some (.int .i64 t.f4) ∧ w'.cell? ⟨g2, i * 9 + 5, none⟩ = some (.int .i64 t.f5) ∧ w'.cell? ⟨g2, i * 9 + 6, none⟩ = some (.int .i64 t.f6) ∧ w'.cell? ⟨g2, i * 9 + 7, none⟩ = some (.bool t.f7) ∧ w'.cell? ⟨g2, i * 9 + 8, none⟩ = some (.slice A8 t.f8.length c8)) [11, 12] (by kernel_rfl) ?_
        have hS0 := And.intro s0 (And.intro q0 (And.intro q1 (And.intro q2 (And.intro q3 (And.intro q4 (And.intro q5 (And.intro q6 (And.intro q7 q8))))))))
        refine wpAnyX_take3 (i := 0) (v := ?_) rfl (by kernel_rfl) (by kernel_rfl) (by kernel_rfl) (by kernel_rfl) (fun _ _ _ h => h) (Or.inl ⟨by rfl, ?_⟩) (by assumption) ?_
        rotate_left 1
        · intro w hSw; (try dsimp only at hSw); go_split_ands; (first | (go_simp; done) | (go_simp; with_reducible rfl))
        try simp only [Act.put, List.getElem_toArray, List.getElem_cons_zero, List.getElem_cons_succ, List.setIfInBounds_toArray, List.set_cons_zero, List.set_cons_succ]
        refine wpAnyX_take3 (i := 1) (v := ?_) rfl (by kernel_rfl) (by kernel_rfl) (by kernel_rfl) (by kernel_rfl) (fun _ _ _ h => h) (Or.inl ⟨by rfl, ?_⟩) (by assumption) ?_
        rotate_left 1
        · intro w hSw; (try dsimp only at hSw); go_split_ands; (first | (go_simp; done) | (go_simp; with_reducible rfl))
        try simp only [Act.put, List.getElem_toArray, List.getElem_cons_zero, List.getElem_cons_succ, List.setIfInBounds_toArray, List.set_cons_zero, List.set_cons_succ]
        refine wpAnyX_take3 (i := 2) (v := ?_) rfl (by kernel_rfl) (by kernel_rfl) (by kernel_rfl) (by kernel_rfl) (fun _ _ _ h => h) (Or.inl ⟨by rfl, ?_⟩) (by assumption) ?_
        rotate_left 1
        · intro w hSw; (try dsimp only at hSw); go_split_ands; (first | (go_simp; done) | (go_simp; with_reducible rfl))
        try simp only [Act.put, List.getElem_toArray, List.getElem_cons_zero, List.getElem_cons_succ, List.setIfInBounds_toArray, List.set_cons_zero, List.set_cons_succ]
        refine wpAnyX_take3 (i := 3) (v := ?_) rfl (by kernel_rfl) (by kernel_rfl) (by kernel_rfl) (by kernel_rfl) (fun _ _ _ h => h) (Or.inl ⟨by rfl, ?_⟩) (by assumption) ?_
        rotate_left 1
        · intro w hSw; (try dsimp only at hSw); go_split_ands; (first | (go_simp; done) | (go_simp; with_reducible rfl))
        try simp only [Act.put, List.getElem_toArray, List.getElem_cons_zero, List.getElem_cons_succ, List.setIfInBounds_toArray, List.set_cons_zero, List.set_cons_succ]
        refine wpAnyX_take3 (i := 4) (v := ?_) rfl (by kernel_rfl) (by kernel_rfl) (by kernel_rfl) (by kernel_rfl) (fun _ _ _ h => h) (Or.inl ⟨by rfl, ?_⟩) (by assumption) ?_
        rotate_left 1
        · intro w hSw; (try dsimp only at hSw); go_split_ands; (first | (go_simp; done) | (go_simp; with_reducible rfl))
        try simp only [Act.put, List.getElem_toArray, List.getElem_cons_zero, List.getElem_cons_succ, List.setIfInBounds_toArray, List.set_cons_zero, List.set_cons_succ]
        refine wpAnyX_take3 (i := 5) (v := ?_) rfl (by kernel_rfl) (by kernel_rfl) (by kernel_rfl) (by kernel_rfl) (fun _ _ _ h => h) (Or.inl ⟨by rfl, ?_⟩) (by assumption) ?_
        rotate_left 1
        · intro w hSw; (try dsimp only at hSw); go_split_ands; (first | (go_simp; done) | (go_simp; with_reducible rfl))
        try simp only [Act.put, List.getElem_toArray, List.getElem_cons_zero, List.getElem_cons_succ, List.setIfInBounds_toArray, List.set_cons_zero, List.set_cons_succ]
        refine wpAnyX_take3 (i := 6) (v := ?_) rfl (by kernel_rfl) (by kernel_rfl) (by kernel_rfl) (by kernel_rfl) (fun _ _ _ h => h) (Or.inl ⟨by rfl, ?_⟩) (by assumption) ?_
        rotate_left 1
        · intro w hSw; (try dsimp only at hSw); go_split_ands; (first | (go_simp; done) | (go_simp; with_reducible rfl))
        try simp only [Act.put, List.getElem_toArray, List.getElem_cons_zero, List.getElem_cons_succ, List.setIfInBounds_toArray, List.set_cons_zero, List.set_cons_succ]
        refine wpAnyX_take3 (i := 7) (v := ?_) rfl (by kernel_rfl) (by kernel_rfl) (by kernel_rfl) (by kernel_rfl) (fun _ _ _ h => h) (Or.inl ⟨by rfl, ?_⟩) (by assumption) ?_
        rotate_left 1
        · intro w hSw; (try dsimp only at hSw); go_split_ands; (first | (go_simp; done) | (go_simp; with_reducible rfl))
        try simp only [Act.put, List.getElem_toArray, List.getElem_cons_zero, List.getElem_cons_succ, List.setIfInBounds_toArray, List.set_cons_zero, List.set_cons_succ]
        refine wpAnyX_take3 (i := 8) (v := ?_) rfl (by kernel_rfl) (by kernel_rfl) (by kernel_rfl) (by kernel_rfl) (fun _ _ _ h => h) (Or.inl ⟨by rfl, ?_⟩) (by assumption) ?_
        rotate_left 1
        · intro w hSw; (try dsimp only at hSw); go_split_ands; (first | (go_simp; done) | (go_simp; with_reducible rfl))
        try simp only [Act.put, List.getElem_toArray, List.getElem_cons_zero, List.getElem_cons_succ, List.setIfInBounds_toArray, List.set_cons_zero, List.set_cons_succ]
        clear hS0
        have HSD := Veil.mk (HS.out.step (Below.refl wr.heap.size wr).drew)
        refine wpAnyX_one (i := 9) (by kernel_rfl) rfl (fun K hK => ?_)
        go_simp
        refine (refapply_any _ Ak ck cur t A8 c8 (Kd.C_below HK.out (Below.refl _ _).drew) (by rw [HFF.out]; exact HFL.out) (Kd.C_below HAA.out (Below.refl _ _).drew) HAK.out).mono ?_
        rintro e1 w5 ⟨v5, rfl, hv5, hb5⟩
        rw [← HN.out] at hv5
        have HIS := Veil.mk (row_is (base := w.heap.size) hv5)
        have HS5 := Veil.mk (HSD.out.step hb5)
        have HB5 := Veil.mk hb5
        obtain ⟨A5, c5, rfl, _, _⟩ := Kd.R_reads hv5
        clear hv5 hb5
        have eC : ∀ o v, wr.cell? o = some v → w5.cell? o = some v := fun o v hv => (HB5.out.cell (p := o) (World.block_lt_of_cell? wr _ hv)).trans hv
        have HS0 := Veil.mk (And.intro (eC _ _ s0) (And.intro (eC _ _ q0) (And.intro (eC _ _ q1) (And.intro (eC _ _ q2) (And.intro (eC _ _ q3) (And.intro (eC _ _ q4) (And.intro (eC _ _ q5) (And.intro (eC _ _ q6) (And.intro (eC _ _ q7) (eC _ _ q8))))))))))
        clear eC s0 q0 q1 q2 q3 q4 q5 q6 q7 q8
        dsimp only
        refine hK.out _ _ (fun _ => HS0.out) ?_
        clear hK K
        try simp only [Act.put, List.getElem_toArray, List.getElem_cons_zero, List.getElem_cons_succ, List.setIfInBounds_toArray, List.set_cons_zero, List.set_cons_succ]
        refine wpAnyX_one (i := 10) (by kernel_rfl) rfl (fun K hK => ?_)
        go_simp
        have eD : ∀ (o : Obj) (a : Addr) (v : Value), w5.cell? a = some v → (w5.alloc o).cell? a = some v := fun o a v hv => alloc_cell hv o
        refine hK.out _ _ (fun _ => ⟨eD _ _ _ HS0.out.1, eD _ _ _ HS0.out.2.1, eD _ _ _ HS0.out.2.2.1, eD _ _ _ HS0.out.2.2.2.1, eD _ _ _ HS0.out.2.2.2.2.1, eD _ _ _ HS0.out.2.2.2.2.2.1, eD _ _ _ HS0.out.2.2.2.2.2.2.1, eD _ _ _ HS0.out.2.2.2.2.2.2.2.1, eD _ _ _ HS0.out.2.2.2.2.2.2.2.2.1, eD _ _ _ HS0.out.2.2.2.2.2.2.2.2.2⟩) ?_
        clear hK K eD
        try simp only [Act.put, List.getElem_toArray, List.getElem_cons_zero, List.getElem_cons_succ, List.setIfInBounds_toArray, List.set_cons_zero, List.set_cons_succ]
        refine wpAnyX_one (i := 11) (by kernel_rfl) rfl (fun K hK => ?_)
        obtain ⟨vals, hR0, hvl, hvs⟩ := HS5.out.out.ex
        have HVL : Veil ((vals.map fun x => [x]).length = i + 1) := ⟨by rw [List.length_map, hvl, stsUpTo_length]⟩
        have HR0 := Veil.mk hR0
        have HAP := Veil.mk (fun (w6 : World) (v1 : Value) => HST.out w6 _ v1 (.slice A5 y.length c5) vals w5 HS5.out hR0 hvl hvs HIS.out)
        clear hR0 hvl hvs
        refine Kd.R_append_step (Kd.raw 1) w.heap.size (w0 := w) rfl (.tmp 22) (.tmp 32) 51 47 (.slice none 0 0) 24 rfl Try.underlying51 infoS rfl (Nat.succ_pos 0) (Nat.succ_pos 23) (.slice (some ⟨g, 0, none⟩) (i + 1) d) (vals.map fun x => [x]) [.slice A5 y.length c5] [.slice A5 y.length c5] (fun _ => True) (fun _ => False) rfl rfl ⟨rfl, rfl, by simp [Value.oneCell']⟩ (fun _ h => h.elim) (fun _ _ => trivial) HR0.out HS5.out.below HS5.out.below.size (by have := HVL.out; omega) ?_
        intro v1 w6 hR hB hg hat
        have HS6 := Veil.mk (HAP.out w6 v1 hR hg hB)
        obtain ⟨A6, c6, hv1, _, _⟩ := HS6.out.out.reads
        rw [stsUpTo_length] at hv1
        subst hv1
        refine hK.out _ _ (fun h => by cases h) ?_
        clear hK K hR hB hg hat HAP HR0
        try simp only [Act.put, List.getElem_toArray, List.getElem_cons_zero, List.getElem_cons_succ, List.setIfInBounds_toArray, List.set_cons_zero, List.set_cons_succ]
        refine wpAnyX_one (i := 12) (by kernel_rfl) rfl (fun K hK => ?_)
        go_simp
        refine hK.out _ _ (fun h => by cases h) ?_
        clear hK K
        refine wpAnyX_done (by kernel_rfl) ?_ _
        go_wp2
        exact ⟨⟨i + 1, A6, c6, by omega, by go_num, rfl, HS6⟩, by simp [intOf]; omega⟩
      · as_aux_lemma =>
        have d1 : decide ((i : Int) < (cs.length : Int)) = false := decide_eq_false (by omega)
        have hii : i = cs.length := by omega
        subst hii
        go_wp2
        go_ret
        obtain ⟨B', d', he, hd, hk⟩ := HS.out.out.reads
        injection he with e1 e2 e3
        subst e1 e3
        rw [stsUpTo_length] at hd hk
        exact ⟨B, d, by rw [stsUpTo_length]; rfl, by rw [stsUpTo_length]; exact hd, by rw [stsUpTo_length]; exact hk, HS.out.below⟩
end Go.Proofs.Ytjmnbbflahacoaa.Model
