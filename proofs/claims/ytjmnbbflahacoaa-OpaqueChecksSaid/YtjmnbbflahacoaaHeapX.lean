/- container/heap's Push and Pop over opaque's things, walked. No condition. -/
import Derived.Test.YtjmnbbflahacoaaHeapW
namespace Go.Proofs.Ytjmnbbflahacoaa.Opq
open Go.RowKit Go.Proofs.Ytjmnbbflahacoaa.Mem Go.Proofs.Ytjmnbbflahacoaa.Hist Go.Proofs.Ytjmnbbflahacoaa.PHistTells Go.Proofs.YtjmnbbflahacoaaW.PrintWords
set_option linter.unusedVariables false
set_option linter.unusedSimpArgs false

set_option maxHeartbeats 8000000 in
set_option maxRecDepth 100000 in
theorem hpush_any (w : World) (base b : Nat) (A : Option Addr) (c : Nat) (xs : List Th) (x : Th) (h : HeapAt w base b A c xs) (hh : HeapL xs) (hl : xs.length ≤ 1000) :
    Calls Try.prog 71 #[.iface 111 (.pointer (some ⟨b, 0, none⟩)), .iface 118 (.agg #[.int .i64 x.1, .int .i64 x.2])] w fun e w' => (∃ v, e = .returned v) ∧ (∃ A' c' ys, HeapAt w' base b A' c' ys ∧ ys.Perm (xs ++ [x]) ∧ HeapL ys) ∧ Below base w w' := by
  have HP := Veil.mk (push_any w base b A c xs x h (by omega))
  have HU := Veil.mk (up_start (x := x) hh)
  have HLN := Veil.mk (show (xs ++ [x]).length = xs.length + 1 by simp)
  have hm1 := m_push w b
  clear h hh
  go_enter Try.func71, Try.ntmps71
  go_wp2_with (first | (go_at_call 141; go_must (refine HP.out.mono ?_; rintro ed w2 ⟨⟨v, rfl⟩, ⟨A2, c2, hh2⟩, hb⟩; have HH2 := Veil.mk hh2; have HB2 := Veil.mk hb; have s2 := hh2.box.cell 0 _ rfl; rw [HLN.out] at s2; have hm2 := m_len w2 b _ s2; clear hb hh2)) | (go_at_call 138; go_must (refine (len_any w2 A2 (xs.length + 1) c2).mono ?_; rintro ed w3 ⟨rfl, rfl⟩; have hi : ((xs.length : Nat) : Int) + 1 - 1 = (xs.length : Int) := (by omega))) | (go_at_call 88; go_must (refine (up_any _ base b A2 c2 (xs ++ [x]) xs.length HH2.out (by rw [HLN.out]; omega) HU.out (by rw [HLN.out]; omega)).mono ?_; rintro ed w4 ⟨⟨v, rfl⟩, hy, hb⟩; have HY := Veil.mk hy; have HB4 := Veil.mk (HB2.out.trans hb); clear hb hy)))
  go_end0
  obtain ⟨ys, h1, h2, h3⟩ := HY.out
  exact ⟨⟨_, rfl⟩, ⟨_, _, ys, h1, h2, h3⟩, HB4.out⟩

/-- What Pop leaves: the least one, and a heap of the rest. -/
structure Popped (xs : List Th) (z : Th) (ys : List Th) : Prop where
  perm : (z :: ys).Perm xs
  least : ∀ y ∈ ys, leT z y
  heap : HeapL ys
theorem popped_of {xs : List Th} (h : HeapL xs) (h0 : 0 < xs.length) {zs : List Th} {n : Nat} (hn : xs.length = n + 1) (hp : zs.Perm (swapL xs 0 n h0 (by omega))) (hz : zs.length = n + 1) (hlast : zs[n]? = (swapL xs 0 n h0 (by omega))[n]?) (hh : ∃ hn', HeapN zs n hn') :
    ∃ ys z, zs = ys ++ [z] ∧ ys.length = n ∧ Popped xs z ys := by
  have hne : zs ≠ [] := by intro he; subst he; simp at hz
  refine ⟨zs.dropLast, zs.getLast hne, (List.dropLast_concat_getLast hne).symm, by simp [hz], ?_⟩
  have hz0 : zs.getLast hne = xs[0] := by
    have h1 : zs[n]? = some (zs.getLast hne) := by
      rw [List.getLast_eq_getElem, List.getElem?_eq_getElem (by omega)]
      congr 1
      simp [hz]
    rw [hlast, List.getElem?_eq_getElem (by rw [swapL_length]; omega)] at h1
    injection h1 with h1
    rw [← h1, swapL_get xs 0 n h0 (by omega) n (by omega), if_pos rfl]
  have hperm : (zs.getLast hne :: zs.dropLast).Perm xs := by
    have h1 : (zs.dropLast ++ [zs.getLast hne]).Perm xs := by
      rw [List.dropLast_concat_getLast hne]
      exact hp.trans (swapL_perm _ _ _ _ _)
    exact (List.perm_append_comm (l₁ := [zs.getLast hne])).trans h1
  refine ⟨hperm, fun y hy => ?_, ?_⟩
  · have hmem : y ∈ xs := hperm.mem_iff.1 (List.mem_cons_of_mem _ hy)
    obtain ⟨i, hi, rfl⟩ := List.getElem_of_mem hmem
    rw [hz0]
    exact heap_least h i hi
  · intro i hi hi0
    obtain ⟨hn', hN⟩ := hh
    have hil : i < n := by simp [hz] at hi; omega
    have := hN i hil hi0
    rw [List.getElem_dropLast, List.getElem_dropLast]
    exact this

theorem swap_down {xs : List Th} (h : HeapL xs) (h0 : 0 < xs.length) {n : Nat} (hn : xs.length = n + 1) : DownTo (swapL xs 0 n h0 (by omega)) n 0 (by rw [swapL_length]; omega) := by
  constructor
  · intro i hi hi0 hne
    rw [swapL_get xs 0 n h0 (by omega) _ (by omega), swapL_get xs 0 n h0 (by omega) _ (by omega)]
    rw [if_neg (by omega), if_neg hne, if_neg (by omega), if_neg (by omega)]
    exact h i (by omega) hi0
  · intro i hi hi0 hp h00
    omega

set_option maxHeartbeats 8000000 in
set_option maxRecDepth 100000 in
theorem hpop_any (w : World) (base b : Nat) (A : Option Addr) (c : Nat) (xs : List Th) (h : HeapAt w base b A c xs) (hh : HeapL xs) (h0 : 0 < xs.length) (hl : xs.length ≤ 1000) :
    Calls Try.prog 72 #[.iface 111 (.pointer (some ⟨b, 0, none⟩))] w fun e w' => (∃ ys z, e = .returned (.iface 118 (.agg #[.int .i64 z.1, .int .i64 z.2])) ∧ HeapAt w' base b A c ys ∧ Popped xs z ys) ∧ Below base w w' ∧ KeepsH w w' := by
  obtain ⟨n, hn⟩ : ∃ n, xs.length = n + 1 := ⟨xs.length - 1, by omega⟩
  have hnl : n < xs.length := by omega
  have HH := Veil.mk h
  have HSW := Veil.mk (swap_any w base b A c xs 0 n h h0 hnl (by omega))
  have HSL := Veil.mk (swapL_length xs 0 n h0 hnl)
  have HSD := Veil.mk (swap_down hh h0 hn)
  have HPO := Veil.mk (fun (zs : List Th) => popped_of (zs := zs) hh h0 hn)
  have s0 := h.box.cell 0 _ rfl
  have hm1 := m_len w b _ s0
  have hm2 := m_swap w b _ s0
  have HN := Veil.mk hn
  have hi : (n : Int) + 1 - 1 = (n : Int) := by omega
  have hnb : (n : Int) ≤ 1000 := by omega
  have HLE := Veil.mk (len_any w A (n + 1) c)
  have hSWP : swapL xs 0 n h0 hnl = (xs.set 0 xs[n]).set n xs[0] := rfl
  rw [← hSWP] at HSW
  obtain ⟨us, hus⟩ : ∃ us, swapL xs 0 n h0 hnl = us := ⟨_, rfl⟩
  have hdn : ∃ hq : n ≤ us.length, DownTo us n 0 hq := by rw [← hus]; exact ⟨_, HSD.out⟩
  obtain ⟨hq, hdn⟩ := hdn
  have HDN := Veil.mk hdn
  have HPU : Veil (∀ zs, zs.Perm us → zs.length = n + 1 → zs[n]? = us[n]? → (∃ hn', HeapN zs n hn') → ∃ ys z, zs = ys ++ [z] ∧ ys.length = n ∧ Popped xs z ys) := ⟨by rw [← hus]; exact HPO.out⟩
  have HUL : Veil (us.length = n + 1) := ⟨by rw [← hus, HSL.out]; exact hn⟩
  rw [hus] at HSW
  rw [hn] at s0 hm1 hm2 HSW
  clear h hh hus hSWP HSD HPO HSL hdn hn
  go_enter Try.func72, Try.ntmps72
  go_wp2_with (first | (go_at_call 138; go_must (refine HLE.out.mono ?_; rintro ed w2 ⟨rfl, rfl⟩)) | (go_at_call 142; go_must (refine HSW.out.mono ?_; rintro ed w3 ⟨⟨v, rfl⟩, hh3, hb, hkk⟩; have HH3 := Veil.mk hh3; have HB3 := Veil.mk hb; have HK3 := Veil.mk hkk; clear hb hh3 hkk)) | (go_at_call 89; go_must (refine (down_any _ base b A c us n HH3.out hq HDN.out (by rw [HUL.out]; omega)).mono ?_; rintro ed w4 ⟨⟨v, rfl⟩, zs, hd, hne⟩; obtain ⟨ys, z, rfl, hyn, hpp⟩ := HPU.out zs hd.perm (by rw [hd.len]; exact HUL.out) hd.last hne; have HP := Veil.mk hpp; have HH4 := Veil.mk hd.heap; have HB4 := Veil.mk (HB3.out.trans hd.below); have HK4 := Veil.mk (HK3.out.trans hd.keeps); have HYN := Veil.mk hyn; have hm4 := m_pop w4 b; clear hd hne hpp hyn)) | (go_at_call 140; go_must (refine (pop_any _ base b A c ys z HH4.out (by rw [HYN.out]; omega)).mono ?_; rintro ed w5 ⟨rfl, hh5, hb, hkk⟩; have HH5 := Veil.mk hh5; have HB5 := Veil.mk (HB4.out.trans hb); have HK5 := Veil.mk (HK4.out.trans hkk); clear hb hh5 hkk)))
  go_ret
  exact ⟨⟨ys, z, rfl, HH5.out, HP.out⟩, HB5.out, HK5.out⟩
end Go.Proofs.Ytjmnbbflahacoaa.Opq
