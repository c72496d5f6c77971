/- OpaqueOrder, plain: the values in the order of an opaque trace. No condition. -/
import Derived.Test.YtjmnbbflahacoaaOpW
namespace Go.Proofs.Ytjmnbbflahacoaa.Opq
open Go.RowKit Go.Proofs.Ytjmnbbflahacoaa.Mem Go.Proofs.Ytjmnbbflahacoaa.Hist Go.Proofs.Ytjmnbbflahacoaa.Model Go.Proofs.Ytjmnbbflahacoaa.PHistTells Go.Proofs.YtjmnbbflahacoaaW.PrintWords
set_option linter.unusedVariables false
set_option linter.unusedSimpArgs false

/-- The tries of things. -/
def tryOf (l : List Ev) (z : Th) : Option Tr := (triesM l)[z.2.toNat]?
def otM (l : List Ev) (os : List Th) : List Tr := os.filterMap (tryOf l)
def comM (l : List Ev) (os : List Th) : List Tr := (otM l os).filter (fun t => t.f7)
theorem rankM_num (first : List Int) (l : List Ev) (i : Nat) : (rankM first l i).2 = (i : Int) := by unfold rankM; split <;> rfl
theorem filterMap_self {α : Type} (xs : List α) : (List.range xs.length).filterMap (fun i => xs[i]?) = xs := by
  induction xs with
  | nil => rfl
  | cons x xs ih =>
    rw [List.length_cons, List.range_succ_eq_map, List.filterMap_cons]
    simp only [List.getElem?_cons_zero]
    rw [List.filterMap_map]
    congr 1
theorem otM_perm {first : List Int} {l : List Ev} {os : List Th} (h : OrderOf first l os) : (otM l os).Perm (triesM l) := by
  unfold otM
  refine (h.perm.filterMap _).trans ?_
  unfold ranksM
  rw [List.filterMap_map]
  have e : (tryOf l ∘ rankM first l) = (fun i => (triesM l)[i]?) := by
    funext i
    unfold tryOf
    simp only [Function.comp, rankM_num, Int.toNat_natCast]
  rw [e, filterMap_self]
theorem comM_is {first : List Int} {l : List Ev} {os : List Th} (hr : rightM l = true) (h : OrderOf first l os) (hs : ∀ t ∈ triesM l, 0 ≤ seenI (stsM first l) l t) : comM l os = commitsM l := by
  refine commits_is ⟨?_, ?_⟩
  · unfold comM ended
    exact (otM_perm h).filter _
  · unfold comM otM
    rw [List.pairwise_filter, List.pairwise_filterMap, List.pairwise_iff_getElem]
    intro i k hi hk hik t ht u hu h7 g7
    obtain ⟨a, t', ht', _, ha2, hae⟩ := order_at h i hi
    obtain ⟨b, u', hu', _, hb2, hbe⟩ := order_at h k hk
    unfold tryOf at ht hu
    rw [ha2, Int.toNat_natCast] at ht
    rw [hb2, Int.toNat_natCast] at hu
    have := ends_rise hr h hs hik hk ht hu hae hbe h7 g7
    omega
theorem comM_next {l : List Ev} {os : List Th} {k j : Nat} {t : Tr} (hk : k < os.length) (hj : os[k].2 = (j : Int)) (ht : (triesM l)[j]? = some t) : comM l (os.take (k + 1)) = if t.f7 then comM l (os.take k) ++ [t] else comM l (os.take k) := by
  unfold comM otM
  rw [List.take_succ_eq_append_getElem hk, List.filterMap_append, List.filter_append]
  have : [os[k]].filterMap (tryOf l) = [t] := by
    unfold tryOf
    simp [hj, ht]
  rw [this]
  cases h7 : t.f7 <;> simp [h7]
/-- The values behind the first k of an order. -/
def valsK (first : List Int) (l : List Ev) (os : List Th) (k : Nat) : List Int := foldM first (comM l (os.take k))
theorem foldM_snoc (first : List Int) (ts : List Tr) (t : Tr) : foldM first (ts ++ [t]) = applyM (foldM first ts) t.f8 := by
  unfold foldM
  rw [List.foldl_append]
  rfl
theorem valsK_next {first : List Int} {l : List Ev} {os : List Th} {k j : Nat} {t : Tr} (hk : k < os.length) (hj : os[k].2 = (j : Int)) (ht : (triesM l)[j]? = some t) : valsK first l os (k + 1) = if t.f7 then applyM (valsK first l os k) t.f8 else valsK first l os k := by
  unfold valsK
  rw [comM_next hk hj ht]
  split
  · rw [foldM_snoc]
  · rfl
theorem valsK_zero (first : List Int) (l : List Ev) (os : List Th) : valsK first l os 0 = first := rfl
theorem sts_get (first : List Int) (l : List Ev) {c : Nat} (h : c ≤ (commitsM l).length) : (stsM first l)[c]? = some (foldM first ((commitsM l).take c)) := by
  unfold stsM stsUpTo
  cases c with
  | zero => rfl
  | succ c =>
    rw [List.getElem?_cons_succ, List.getElem?_map, List.getElem?_range (by omega)]
    rfl
theorem valsK_last {first : List Int} {l : List Ev} {os : List Th} (hr : rightM l = true) (h : OrderOf first l os) (hs : ∀ t ∈ triesM l, 0 ≤ seenI (stsM first l) l t) : (stsM first l)[(commitsM l).length]? = some (valsK first l os os.length) := by
  rw [sts_get first l (Nat.le_refl _), List.take_length]
  unfold valsK
  rw [List.take_length, comM_is hr h hs]
theorem commits_mem {l : List Ev} {t : Tr} (h : t ∈ commitsM l) : t ∈ triesM l ∧ t.f7 = true := by
  unfold commitsM at h
  rw [List.mem_flatMap] at h
  obtain ⟨i, _, h⟩ := h
  have := List.mem_filter.1 h
  simp only [Bool.and_eq_true, beq_iff_eq] at this
  exact ⟨this.1, this.2.1⟩
theorem commits_strict {l : List Ev} (hr : rightM l = true) : (commitsM l).Pairwise (fun a b => beforeM l a.f5 < beforeM l b.f5) := by
  have hE := ends_of_right hr
  have key : ∀ (i j : Nat), i < j → ∀ a b, a ∈ (triesM l).filter (fun t => t.f7 && t.f5 == (i : Int)) → b ∈ (triesM l).filter (fun t => t.f7 && t.f5 == (j : Int)) → beforeM l a.f5 < beforeM l b.f5 := by
    intro i j hij a b ha hb
    have h1 := List.mem_filter.1 ha
    have h2 := List.mem_filter.1 hb
    simp only [Bool.and_eq_true, beq_iff_eq] at h1 h2
    have a0 := hE.com a h1.1 h1.2.1
    obtain ⟨x, hx, hx7⟩ := ((triesM_good l).1 a h1.1).ek a0
    rw [h1.2.1] at hx7
    have := before_commit (q := b.f5) a0 hx (by simpa using hx7.symm) (by rw [h1.2.2, h2.2.2]; omega)
    omega
  unfold commitsM
  rw [List.flatMap_def, List.pairwise_flatten]
  refine ⟨fun m hm => ?_, ?_⟩
  · obtain ⟨i, _, rfl⟩ := List.mem_map.1 hm
    have hn : (triesM l).Pairwise (fun a b => ¬ (0 ≤ a.f5 ∧ a.f5 = b.f5)) := by
      rw [List.pairwise_iff_getElem]
      intro a b ha hb hab hh
      have := hE.one a b _ _ (List.getElem?_eq_getElem ha) (List.getElem?_eq_getElem hb) hh.1 hh.2
      omega
    refine (hn.filter _).imp_of_mem (fun {a b} ha hb hn => ?_)
    exfalso
    have h1 := List.mem_filter.1 ha
    have h2 := List.mem_filter.1 hb
    simp only [Bool.and_eq_true, beq_iff_eq] at h1 h2
    exact hn ⟨by omega, by omega⟩
  · rw [List.pairwise_map]
    refine List.Pairwise.imp_of_mem (R := fun (a b : Nat) => a < b) (fun {i j} _ _ hij => ?_) List.pairwise_lt_range
    intro a ha b hb
    exact key i j hij a b ha hb
/-- A list of numbers below its length that rises counts up. -/
theorem rise_id : ∀ (xs : List Nat) (m : Nat), xs.Pairwise (· < ·) → (∀ x ∈ xs, m ≤ x ∧ x < m + xs.length) → ∀ i (h : i < xs.length), xs[i] = m + i
  | [], _, _, _, i, h => by simp at h
  | x :: xs, m, hp, hb, i, h => by
    rw [List.pairwise_cons] at hp
    have hx := hb x List.mem_cons_self
    have hlow : ∀ y ∈ xs, m + 1 ≤ y ∧ y < (m + 1) + xs.length := fun y hy => by
      have h1 := hp.1 y hy
      have h2 := hb y (List.mem_cons_of_mem _ hy)
      rw [List.length_cons] at h2
      omega
    have ih := rise_id xs (m + 1) hp.2 hlow
    cases i with
    | zero =>
      rw [List.getElem_cons_zero]
      cases hxs : xs with
      | nil => rw [hxs] at hx; simp at hx; omega
      | cons y ys =>
        have h0 := ih 0 (by rw [hxs]; simp)
        have hy : xs[0]'(by rw [hxs]; simp) = y := by simp [hxs]
        rw [hy] at h0
        have := hp.1 y (by rw [hxs]; exact List.mem_cons_self)
        omega
    | succ i =>
      rw [List.getElem_cons_succ, ih i (by simpa using h)]
      omega
theorem commits_before {l : List Ev} (hr : rightM l = true) {j : Nat} (hj : j < (commitsM l).length) : beforeM l (commitsM l)[j].f5 = j := by
  have hE := ends_of_right hr
  have hlen := commitsM_length l hr
  have h := rise_id ((commitsM l).map (fun t => beforeM l t.f5)) 0 (by rw [List.pairwise_map]; exact commits_strict hr) (fun x hx => by
    obtain ⟨t, ht, rfl⟩ := List.mem_map.1 hx
    have hm := commits_mem ht
    have t0 := hE.com t hm.1 hm.2
    have tl := hE.lt t hm.1
    obtain ⟨y, hy, hy7⟩ := ((triesM_good l).1 t hm.1).ek t0
    rw [hm.2] at hy7
    have := before_commit (q := (l.length : Int)) t0 hy (by simpa using hy7.symm) (by omega)
    rw [List.length_map]
    omega) j (by rw [List.length_map]; exact hj)
  rw [List.getElem_map] at h
  omega
theorem seen_com {first : List Int} {l : List Ev} (hr : rightM l = true) (hs : ∀ t ∈ triesM l, 0 ≤ seenI (stsM first l) l t) {t : Tr} (ht : t ∈ triesM l) (h7 : t.f7 = true) : seenI (stsM first l) l t = (beforeM l t.f5 : Int) := by
  have t0 := (ends_of_right hr).com t ht h7
  have := (within_one ht (hs t ht)).2.2 h7
  rw [this]
  unfold endM
  rw [if_neg (by omega)]
theorem mem_comM {l : List Ev} {os : List Th} {t : Tr} (h : t ∈ comM l os) : t.f7 = true ∧ ∃ i, ∃ hi : i < os.length, tryOf l os[i] = some t := by
  unfold comM otM at h
  have h1 := List.mem_filter.1 h
  refine ⟨h1.2, ?_⟩
  obtain ⟨z, hz, hzt⟩ := List.mem_filterMap.1 h1.1
  obtain ⟨i, hi, rfl⟩ := List.getElem_of_mem hz
  exact ⟨i, hi, hzt⟩
/-- A try of an order is seen where as many ones as stand ahead of it committed. -/
theorem seen_count {first : List Int} {l : List Ev} {os : List Th} (hr : rightM l = true) (h : OrderOf first l os) (hs : ∀ t ∈ triesM l, 0 ≤ seenI (stsM first l) l t) {k j : Nat} {t : Tr} (hk : k < os.length) (hj : os[k].2 = (j : Int)) (ht : (triesM l)[j]? = some t) :
    seenI (stsM first l) l t = ((comM l (os.take k)).length : Int) ∧ (comM l (os.take k)).length ≤ (commitsM l).length ∧ comM l (os.take k) = (commitsM l).take (comM l (os.take k)).length := by
  have hsplit : commitsM l = comM l (os.take k) ++ comM l (os.drop k) := by
    rw [← comM_is hr h hs]
    conv => lhs; rw [← List.take_append_drop k os]
    unfold comM otM
    rw [List.filterMap_append, List.filter_append]
  have hlen : (comM l (os.take k)).length ≤ (commitsM l).length := by rw [hsplit, List.length_append]; omega
  have htake : comM l (os.take k) = (commitsM l).take (comM l (os.take k)).length := by rw [hsplit, List.take_left']; rfl
  refine ⟨?_, hlen, htake⟩
  obtain ⟨c, hc⟩ : ∃ c, (comM l (os.take k)).length = c := ⟨_, rfl⟩
  rw [hc] at hlen htake ⊢
  have tm := List.mem_of_getElem? ht
  have t0 := hs t tm
  have hw := within_one tm t0
  obtain ⟨p, hp⟩ : ∃ p : Nat, seenI (stsM first l) l t = (p : Int) := ⟨(seenI (stsM first l) l t).toNat, by omega⟩
  have hpC : p ≤ (commitsM l).length := by
    have h1 := beforeM_most l (endM l t)
    rw [commitsM_length l hr]
    omega
  obtain ⟨j', t', ht', _, hj', he⟩ := order_at h k hk
  have hjj : j' = j := by omega
  subst hjj
  rw [rankM_at ht, hp] at he
  rw [hp]
  have hrank : ∀ (i : Nat) (hi : i < os.length) (u : Tr), tryOf l os[i] = some u → u.f7 = true → ∃ b, (triesM l)[b]? = some u ∧ os[i] = rankM first l b ∧ os[i] = (2 * (beforeM l u.f5 : Int) + 1, (b : Int)) := fun i hi u hu h7 => by
    obtain ⟨b, u', hu', _, hb2, hbe⟩ := order_at h i hi
    unfold tryOf at hu
    rw [hb2, Int.toNat_natCast] at hu
    refine ⟨b, hu, hbe, ?_⟩
    rw [hbe, rankM_at hu, seen_com hr hs (List.mem_of_getElem? hu) h7, h7]
    rfl
  by_cases h1 : p < c
  · exfalso
    have hpl : p < (commitsM l).length := by omega
    have hmem : (commitsM l)[p] ∈ comM l (os.take k) := by
      rw [htake]
      exact List.mem_take_iff_getElem.2 ⟨p, by omega, rfl⟩
    obtain ⟨u7, i, hi, hu⟩ := mem_comM hmem
    rw [List.length_take] at hi
    rw [List.getElem_take] at hu
    obtain ⟨b, hub, hbe, hbr⟩ := hrank i (by omega) _ hu u7
    rw [commits_before hr hpl] at hbr
    have hle := List.pairwise_iff_getElem.1 h.sorted i k (by omega) hk (by omega)
    rw [hbr, he] at hle
    cases h7 : t.f7 with
    | false =>
      rw [h7] at hle
      unfold leT at hle
      simp at hle
      omega
    | true =>
      have hlt := ends_rise hr h hs (show i < k by omega) hk hub ht hbe (by rw [he, rankM_at ht, hp]) u7 h7
      have um := commits_mem (List.getElem_mem hpl)
      have u0 := (ends_of_right hr).com _ um.1 um.2
      obtain ⟨x, hx, hx7⟩ := ((triesM_good l).1 _ um.1).ek u0
      rw [um.2] at hx7
      have hb := before_commit u0 hx (by simpa using hx7.symm) hlt
      rw [commits_before hr hpl] at hb
      have := seen_com hr hs tm h7
      omega
  · by_cases h2 : c < p
    · exfalso
      have hcl : c < (commitsM l).length := by omega
      have hmem : (commitsM l)[c] ∈ comM l (os.drop k) := by
        have e : (commitsM l)[c] = (comM l (os.take k) ++ comM l (os.drop k))[c]'(by rw [← hsplit]; exact hcl) := by simp only [← hsplit]
        rw [e, List.getElem_append_right (by omega)]
        exact List.getElem_mem _
      obtain ⟨u7, i, hi, hu⟩ := mem_comM hmem
      rw [List.length_drop] at hi
      rw [List.getElem_drop] at hu
      obtain ⟨b, hub, hbe, hbr⟩ := hrank (k + i) (by omega) _ hu u7
      rw [commits_before hr hcl] at hbr
      by_cases hi0 : i = 0
      · subst hi0
        simp only [Nat.add_zero] at hbr
        rw [he] at hbr
        have h3 := congrArg Prod.fst hbr
        simp only at h3
        split at h3 <;> omega
      · have hle := List.pairwise_iff_getElem.1 h.sorted k (k + i) hk (by omega) (by omega)
        rw [hbr, he] at hle
        unfold leT at hle
        simp only at hle
        split at hle <;> omega
    · omega
theorem fits_order {first : List Int} {l : List Ev} {os : List Th} (hr : rightM l = true) (h : OrderOf first l os) (hs : ∀ t ∈ triesM l, 0 ≤ seenI (stsM first l) l t) {k j : Nat} {t : Tr} (hk : k < os.length) (hj : os[k].2 = (j : Int)) (ht : (triesM l)[j]? = some t) :
    fitsM (valsK first l os k) t.f8 = true := by
  obtain ⟨h1, h2, h3⟩ := seen_count hr h hs hk hj ht
  have hget := sts_get first l h2
  rw [← h3] at hget
  have key : ∀ (ss : List (List Int)) (acc : List Acc) (n p q : Nat), seenFrom ss acc n p = some q → fitsM (ss.getD q []) acc = true := by
    intro ss acc n
    induction n with
    | zero => intro p q h; cases h
    | succ n ih =>
      intro p q h
      rw [seenFrom] at h
      split at h
      · injection h with h; subst h; assumption
      · exact ih _ _ h
  unfold seenI at h1
  split at h1
  · rename_i p hp
    have := key _ _ _ _ _ hp
    have hpe : p = (comM l (os.take k)).length := by omega
    rw [hpe, List.getD_eq_getElem?_getD, hget] at this
    exact this
  · omega
/-- The place of a try in an order. -/
def posM (os : List Th) (k : Nat) (j : Int) : Option Nat := ((os.take k).map (·.2)).idxOf? j
theorem nums_nodup {first : List Int} {l : List Ev} {os : List Th} (h : OrderOf first l os) : (os.map (·.2)).Nodup := by
  have hp := h.perm.map (·.2)
  rw [hp.nodup_iff]
  unfold ranksM
  rw [List.map_map]
  refine List.pairwise_map.2 (List.nodup_range.imp (fun {a b} hab he => hab ?_))
  simp only [Function.comp, rankM_num] at he
  omega
theorem posM_new {first : List Int} {l : List Ev} {os : List Th} (h : OrderOf first l os) {k : Nat} (hk : k < os.length) : posM os k os[k].2 = none := by
  unfold posM
  rw [List.idxOf?_eq_none_iff]
  intro hm
  have hn := nums_nodup h
  obtain ⟨z, hz, he⟩ := List.mem_map.1 hm
  obtain ⟨i, hi, hie⟩ := List.getElem_of_mem hz
  rw [List.length_take] at hi
  rw [List.getElem_take] at hie
  have := List.pairwise_iff_getElem.1 hn i k (by rw [List.length_map]; omega) (by rw [List.length_map]; omega) (by omega)
  simp only [List.getElem_map] at this
  rw [hie] at this
  exact this he
theorem idxOf_snoc {xs : List Int} {x : Int} (h : xs.idxOf? x = none) (y : Int) : (xs ++ [x]).idxOf? y = if y = x then some xs.length else xs.idxOf? y := by
  rw [List.idxOf?_eq_none_iff] at h
  unfold List.idxOf?
  rw [List.findIdx?_append]
  by_cases e : y = x
  · subst e
    rw [if_pos rfl]
    have : xs.findIdx? (fun z => z == y) = none := by
      rw [List.findIdx?_eq_none_iff]
      intro z hz
      simp
      rintro rfl
      exact h hz
    rw [this]
    simp
  · rw [if_neg e]
    have : [x].findIdx? (fun z => z == y) = none := by simp [Ne.symm e]
    rw [this]
    simp
theorem posM_next {first : List Int} {l : List Ev} {os : List Th} (h : OrderOf first l os) {k : Nat} (hk : k < os.length) (j : Int) : posM os (k + 1) j = if j = os[k].2 then some k else posM os k j := by
  have h0 := posM_new h hk
  unfold posM at *
  rw [List.take_succ_eq_append_getElem hk, List.map_append, List.map_cons, List.map_nil, idxOf_snoc h0, List.length_map, List.length_take, Nat.min_eq_left (by omega)]
theorem posM_all {first : List Int} {l : List Ev} {os : List Th} (h : OrderOf first l os) {j : Nat} (hj : j < (triesM l).length) : ∃ k, ∃ hk : k < os.length, posM os os.length (j : Int) = some k ∧ os[k] = rankM first l j := by
  have hm : rankM first l j ∈ os := h.perm.mem_iff.2 (List.mem_map.2 ⟨j, by simpa using hj, rfl⟩)
  obtain ⟨k, hk, he⟩ := List.getElem_of_mem hm
  refine ⟨k, hk, ?_, he⟩
  have hn := nums_nodup h
  unfold posM
  rw [List.take_length]
  have h2 : (os.map (·.2))[k]'(by rw [List.length_map]; exact hk) = (j : Int) := by
    rw [List.getElem_map, he, rankM_num]
  rw [← h2]
  have := hn.idxOf_getElem k (by rw [List.length_map]; exact hk)
  rw [List.idxOf?_eq_some_iff]
  refine ⟨by rw [List.length_map]; exact hk, by simp, fun i hi he2 => ?_⟩
  have h3 := List.pairwise_iff_getElem.1 hn i k (by rw [List.length_map]; omega) (by rw [List.length_map]; omega) hi
  exact h3 (by simpa using he2)
theorem time_ok {first : List Int} {l : List Ev} {os : List Th} (hok : ∀ e ∈ l, EvOk e) (h : OrderOf first l os) (hs : ∀ t ∈ triesM l, 0 ≤ seenI (stsM first l) l t) {a b ka kb : Nat} {t u : Tr} (ha : (triesM l)[a]? = some t) (hb : (triesM l)[b]? = some u)
    (hka : posM os os.length (a : Int) = some ka) (hkb : posM os os.length (b : Int) = some kb) (h0 : 0 ≤ t.f5) (hlt : t.f5 < u.f4) : ka ≤ kb := by
  obtain ⟨i, hi, e1, r1⟩ := posM_all h (List.getElem?_eq_some_iff.1 ha).1
  obtain ⟨k, hk, e2, r2⟩ := posM_all h (List.getElem?_eq_some_iff.1 hb).1
  rw [hka] at e1
  rw [hkb] at e2
  injection e1 with e1
  injection e2 with e2
  subst e1 e2
  by_cases hh : ka ≤ kb
  · exact hh
  · exfalso
    have hle := List.pairwise_iff_getElem.1 h.sorted kb ka hk hi (by omega)
    have tm := List.mem_of_getElem? ha
    have um := List.mem_of_getElem? hb
    rw [r1, r2, rankM_at ha, rankM_at hb] at hle
    have wt := within_one tm (hs t tm)
    have wu := within_one um (hs u um)
    have et : endM l t = t.f5 := by unfold endM; rw [if_neg (by omega)]
    rw [et] at wt
    have hm := beforeM_mono l (show t.f5 ≤ u.f4 by omega)
    have hbt := triesM_btw l t tm h0
    have hab : a < b := by
      have hr := (triesM_parts hok).rise
      rw [List.pairwise_map] at hr
      by_cases hab : a < b
      · exact hab
      · exfalso
        by_cases heq : b = a
        · subst heq
          rw [ha] at hb
          injection hb with hb
          subst hb
          omega
        · have hal := (List.getElem?_eq_some_iff.1 ha).1
          have hbl := (List.getElem?_eq_some_iff.1 hb).1
          have h4 := List.pairwise_iff_getElem.1 hr b a hbl hal (by omega)
          rw [(List.getElem?_eq_some_iff.1 ha).2, (List.getElem?_eq_some_iff.1 hb).2] at h4
          simp only [proj] at h4
          omega
    cases h7 : t.f7 with
    | true =>
      obtain ⟨x, hx, hx7⟩ := ((triesM_good l).1 t tm).ek h0
      rw [h7] at hx7
      have hb := before_commit h0 hx (by simpa using hx7.symm) hlt
      rw [h7] at hle
      unfold leT at hle
      simp only [if_true] at hle
      have := wt.2.2 h7
      split at hle <;> omega
    | false =>
      rw [h7] at hle
      unfold leT at hle
      simp only at hle
      split at hle <;> (simp at hle; omega)
end Go.Proofs.Ytjmnbbflahacoaa.Opq
