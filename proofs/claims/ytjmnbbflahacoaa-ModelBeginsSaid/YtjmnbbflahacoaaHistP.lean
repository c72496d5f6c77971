/- hist, sixteenth part: Commits. No condition. -/
import Derived.Test.YtjmnbbflahacoaaHistO
import Derived.Shelf.SlSortCmp.NoneTotal
namespace Go.Proofs.Ytjmnbbflahacoaa.Hist
open Go.RowKit Go.ChangeMaps Go.Maps Go.Shelf Go.Sort Go.Proofs.Ytjmnbbflahacoaa.Mem Go.Proofs.Ytjmnbbflahacoaa.PHistTells Go.Proofs.YtjmnbbflahacoaaW.PrintWords
set_option linter.unusedVariables false
set_option linter.unusedSimpArgs false

theorem ltEnd (x y : TrV) : ltOf cmpEnd x y = decide (x.1.f5 < y.1.f5) := by
  unfold ltOf cmpEnd Lib.compareInt
  by_cases h1 : x.1.f5 < y.1.f5
  · simp [h1]
  · by_cases h2 : y.1.f5 < x.1.f5 <;> simp [h1, h2]
theorem swoEnd : SWO (ltOf cmpEnd) where
  irrefl x := by rw [ltEnd]; simp
  trans x y z h1 h2 := by rw [ltEnd] at *; simp at *; omega
  ntrans x y z h1 h2 := by rw [ltEnd] at *; simp at *; omega

theorem sortWorld_cell {w : World} {g m : Nat} {d : Array TrV} {os : Array Obj} {a : Addr} {v : Value} (h : w.cell? a = some v) (hn : a.block ≠ g) : (sortWorldK encT 9 w g 0 m d os).cell? a = some v :=
  (World.cell?_of_block (w := w) (sortWorld_other w g m d os a.block (World.block_lt_of_cell? w a h) hn)).trans h

theorem SortRow.below {w w' : World} {base g : Nat} {d : Array TrV} (h : SortRow w base g d) (hlt : g < w.heap.size) (hb : Below w.heap.size w w') : SortRow w' base g d :=
  ⟨fun j hj => ⟨(hb.cell (p := ⟨g, 0 + j, none⟩) hlt).trans (h.holds j hj).1, (hb.frozen (p := ⟨g, 0 + j, none⟩) hlt).trans (h.holds j hj).2⟩, fun x hx => Kd.R_below (h.acc x hx) hb⟩
/-- The row, and the box of what tells the ends. -/
theorem commits_start {w : World} {base g cap n : Nat} {ts : List Tr} {d : Array TrV} (hv : kTr.R 29 w base (fun _ => True) (.slice (some ⟨g, 0, none⟩) n cap) ts) (hmap : d.toList.map (·.1) = ts) (hd : SortRow w base g d) (hgl : g < w.heap.size) (u : Value) (T : Nat) :
    kTr.R 29 (w.alloc (.cells #[u] T)) base (fun _ => True) (.slice (some ⟨g, 0, none⟩) n cap) ts ∧ SortRow (w.alloc (.cells #[u] T)) base g d ∧ (w.alloc (.cells #[u] T)).cell? ⟨w.heap.size, 0, none⟩ = some u ∧ d.size = ts.length ∧ Below w.heap.size w (w.alloc (.cells #[u] T)) := by
  have hb : Below w.heap.size w (w.alloc (.cells #[u] T)) := (Below.refl _ _).alloc (Nat.le_refl _) _
  exact ⟨Kd.R_below hv hb, hd.below hgl hb, (Blk.new w #[u] T).cell 0 _ rfl, by rw [← hmap]; simp, hb⟩

set_option maxHeartbeats 1600000 in
set_option maxRecDepth 100000 in
theorem sort_any (w : World) (base g cap bb : Nat) (d : Array TrV) (hd : SortRow w base g d) (hlt : g < w.heap.size) (hb : w.cell? ⟨bb, 0, none⟩ = some (.func (.func 58) #[] #[])) (hne : bb ≠ g) (hsz : d.size ≤ 1000000000) :
    Calls Try.prog 59 #[.slice (some ⟨g, 0, none⟩) d.size cap, .func (.func 60) #[] #[.pointer (some ⟨bb, 0, none⟩)]] w
      fun e w' => e = .returned (.tuple #[]) ∧ ∃ d' m os, d'.size = d.size ∧ d'.toList.Perm d.toList ∧ d'.toList.Pairwise (fun a b => a.1.f5 ≤ b.1.f5) ∧ w' = sortWorldK encT 9 w g 0 m d' os := by
  have eg : ∀ args w, (callFunc 60 args).run Try.prog w = .ok (.enter 60 args) w := enters_of Try.func60 (by kernel_rfl) rfl
  have hcon := AnyQ.slices_SortFunc Try.sortTr 9 Try.isAgg29 Try.sizeOf29 encT (fun _ => rfl) (fun x v hv => by simp [encT, trC] at hv; rcases hv with rfl | rfl | rfl | rfl | rfl | rfl | rfl | rfl | rfl <;> rfl) cmpEnd swoEnd 60 #[.pointer (some ⟨bb, 0, none⟩)] g 0 cap d w eg
    (fun m os dk hk x y => commits2_any _ bb x y (sortWorld_cell hb hne)) hd.holds hlt (by omega)
  change Calls Try.prog 59 _ _ _ at hcon
  refine hcon.mono ?_
  rintro e w' ⟨rfl, d', m, os, hp, hs, rfl⟩
  refine ⟨rfl, d', m, os, hp.1, ?_, ?_, rfl⟩
  · have h3 := hp.2.2
    rw [show d'.extract 0 d.size = d' from by rw [← hp.1]; simp, show d.extract 0 d.size = d from by simp] at h3
    exact h3
  · rw [List.pairwise_iff_getElem]
    intro i j hi hj hij
    have hi' : i < d'.size := by simpa using hi
    have hj' : j < d'.size := by simpa using hj
    have h := hs i j (Nat.zero_le _) hij (by rw [← hp.1]; exact hj')
    rw [ltEnd, getElem!_pos d' j hj', getElem!_pos d' i hi'] at h
    simp only [decide_eq_false_iff_not] at h
    show (d'[i]).1.f5 ≤ (d'[j]).1.f5
    omega

/-- Those that committed, in whatever order. -/
def ended (l : List Ev) : List Tr := (triesM l).filter (fun t => t.f7)
/-- What Commits leaves: those that committed, by their ends. -/
structure CommitsOf (l : List Ev) (cs : List Tr) : Prop where
  perm : cs.Perm (ended l)
  rise : cs.Pairwise (fun a b => a.f5 ≤ b.f5)

set_option maxHeartbeats 1600000 in
set_option maxRecDepth 100000 in
theorem commits_any (w : World) (A : Option Addr) (c : Nat) (l : List Ev) (hC : kEv.C w A l.length l) (hl : l.length ≤ 1000000000) (hok : ∀ e ∈ l, EvOk e) :
    Calls Try.prog 25 #[.slice A l.length c] w fun e w' => ∃ v cs, e = .returned v ∧ kTr.R 29 w' w.heap.size (fun _ => True) v cs ∧ CommitsOf l cs ∧ Below w.heap.size w w' := by
  have hall := all_any w A c l hC hl hok 57 #[] (fun t => t.f7) (enters_of Try.func57 (by kernel_rfl) rfl) (fun W base b t row _ hT => commits1_any W base b t row hT)
  have hlen : (ended l).length ≤ 1000000000 := by
    have h1 : (triesM l).length ≤ l.length := by
      unfold triesM
      cases h : readM l with
      | none => simp
      | some ts => exact readM_length h
    exact Nat.le_trans (List.length_filter_le _ _) (Nat.le_trans h1 hl)
  have HR := Veil.mk hall
  have hst : ∀ (a : Addr) (W : World), (store a (.func (.func 58) #[] #[])).run Try.prog W = stored Try.prog W a (.func (.func 58) #[] #[]) .plain := fun a W => run_store _ _ _ _ _ rfl
  have HLN := Veil.mk hlen
  clear hC hl hok hall hlen
  by_cases hz : 0 < (ended l).length
  · have HZ := Veil.mk hz
    clear hz
    go_enter Try.func25, Try.ntmps25
    go_wp2_with (first | (go_at_call 51; go_must (refine HR.out.mono ?_; rintro ed w2 ⟨v, rfl, hv, hb⟩; have HB2 := Veil.mk hb; have HV := Veil.mk hv; obtain ⟨g, cap, d, rfl, hmap, hd, hbg, hgl⟩ := sortRow_of hv HZ.out; have HS := Veil.mk (commits_start hv hmap hd hgl (.func (.func 58) #[] #[]) 89); have HG := Veil.mk (And.intro hbg (And.intro hgl hmap)); clear hv hb hd hbg hgl hmap)))
    go_wp2_with (first | (go_at_call 59; go_must (refine (sort_any _ w.heap.size g cap w2.heap.size d HS.out.2.1 (Nat.lt_of_lt_of_le HG.out.2.1 HS.out.2.2.2.2.size) HS.out.2.2.1 (by have := HG.out.2.1; omega) (by rw [HS.out.2.2.2.1]; exact HLN.out)).mono ?_; rintro ed w3 ⟨rfl, d', m, os, hsz, hperm, hrise, rfl⟩)))
    go_ret
    refine ⟨_, d'.toList.map (·.1), rfl, row_of_sort HS.out.1 HS.out.2.1 (by rw [hsz, HS.out.2.2.2.1]) (fun x hx => hperm.mem_iff.1 hx), ⟨?_, ?_⟩, ?_⟩
    · have h := hperm.map (fun x : TrV => x.1)
      rw [HG.out.2.2] at h
      exact h
    · exact List.pairwise_map.2 hrise
    · refine (HB2.out.trans (HS.out.2.2.2.2.mono HB2.out.size)).trans ⟨rfl, rfl, rfl, ?_, fun k hk => ?_⟩
      · show _ ≤ ((w2.alloc _).heap.modify g _ ++ os).size
        simp
      · exact sortWorld_other _ g m d' os k (Nat.lt_of_lt_of_le hk (Nat.le_trans HB2.out.size HS.out.2.2.2.2.size)) (by have := HG.out.1; omega)
  · have hz0 : ended l = [] := List.eq_nil_of_length_eq_zero (by omega)
    have HZ := Veil.mk hz0
    clear hz hz0
    have hnone := fun p cap fv w' => AnyF.slices_SortFunc_none Try.sortTr p cap fv w'
    change ∀ p cap fv w', Calls Try.prog 59 _ _ _ at hnone
    have HNN := Veil.mk hnone
    clear hnone
    go_enter Try.func25, Try.ntmps25
    go_wp2_with (first | (go_at_call 51; go_must (refine HR.out.mono ?_; rintro ed w2 ⟨v, rfl, hv, hb⟩; have HB2 := Veil.mk hb; have hv' : kTr.R 29 w2 w.heap.size (fun _ => True) v (ended l) := hv; rw [HZ.out] at hv'; have HV := Veil.mk hv'; have hrd := Kd.R_reads hv'; obtain ⟨A1, c1, rfl, _, _⟩ := hrd; clear hv hb hv')) | (go_at_call 59; go_must (refine (HNN.out _ _ _ _).mono ?_; rintro ed w3 ⟨rfl, rfl⟩)))
    go_ret
    exact ⟨_, [], rfl, Kd.R_below HV.out ((RowKit.Below.refl _ _).alloc (Nat.le_refl _) _), ⟨by rw [HZ.out], List.Pairwise.nil⟩, HB2.out.alloc HB2.out.size _⟩
end Go.Proofs.Ytjmnbbflahacoaa.Hist
