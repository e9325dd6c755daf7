/- strings.Join, strings.Split, strconv.ParseInt as contracts of the calculus. The conditions stand in each. -/
import Derived.Test.YtmgoencdjkaobaaGreatDoorNpV1
import Derived.Lib.SplitLaws
import Derived.Lib.AtoiErrMem
set_option linter.unusedVariables false
set_option linter.unusedSimpArgs false
namespace Go.Proofs.YtmgoencdjkaobaaGreatDoor
open Go Go.Pe Go.RowKit
theorem mapS (xs : List Str) : (xs.map fun s => (⟨s.toArray⟩ : ByteArray)).map (·.data.toList) = xs := by
  induction xs with
  | nil => rfl
  | cons a l ih => rw [List.map_cons, List.map_cons, ih, ba]
theorem v_join (xs : List Str) (sep : Str) (hx : xs.length < 2 ^ 40) (hj : (Lib.join xs sep).length < 2 ^ 47) : V Tryz.prog 61 [.sl 1 (xs.map AV.str), .str sep] (.ret (.str (Lib.join xs sep))) := by
  refine V_lib fun X w h b vs hh hl => ?_
  obtain ⟨v, u, rfl, h1, h2⟩ := two hl
  rw [h2.str_inv]
  generalize hy : xs.map AV.str = ys at h1
  cases h1 with
  | slE sz a c =>
    have : xs = [] := by simpa using hy
    subst this
    refine (Tryz.strings_Join_none a c ⟨sep.toArray⟩ w).mono ?_
    rintro e w' ⟨rfl, rfl⟩
    exact ⟨Below.refl _ _, _, rfl, .str _⟩
  | sl sz zs bk off c us hne hp hc hm hlt hX hb hsz hcell hrep =>
    subst hy
    have hcells : ∀ (j : Nat) x, (xs.map fun s => (⟨s.toArray⟩ : ByteArray))[j]? = some x → w.cell? ⟨bk, off + j, none⟩ = some (.string x) := by
      intro j x e
      rw [List.getElem?_map] at e
      cases hq : xs[j]? with
      | none => rw [hq] at e; cases e
      | some s =>
        rw [hq] at e; cases e
        have e1 : (xs.map AV.str)[j]? = some (.str s) := by rw [List.getElem?_map, hq]; rfl
        have q1 := hcell j (.str s) 0 (.str s) e1 rfl
        have q2 := (hrep j (.str s) 0 (.str s) e1 rfl).str_inv
        rw [q2] at q1; simpa using q1
    have hjn := mapS xs
    have := Tryz.strings_Join bk off c (xs.map fun s => (⟨s.toArray⟩ : ByteArray)) ⟨sep.toArray⟩ w hcells hlt (by simp; omega) (by simpa using hc) (by rw [hjn, ba]; omega)
    rw [hjn, ba] at this
    simp only [List.length_map] at this ⊢
    refine this.mono ?_
    rintro e w' ⟨rfl, hb⟩
    exact ⟨hb, _, rfl, .str _⟩
theorem v_split (s : Str) (c : UInt8) (hs : s.length < 4294967281) : V Tryz.prog 73 [.str s, .str [c]] (.ret (.sl 1 ((splitC c s).map AV.str))) := by
  refine V_lib fun X w h b vs hh hl => ?_
  obtain ⟨v, u, rfl, h1, h2⟩ := two hl
  obtain ⟨_, ev, _, _, m, hm⟩ := hh.gl.laid
  rw [h1.str_inv, h2.str_inv]
  refine (Tryz.strings_Split ⟨s.toArray⟩ ⟨#[c]⟩ m w (by rw [bs]; exact hs) hm (Nat.le_refl 1)).mono ?_
  rintro e w' ⟨rfl, rfl⟩
  have hc : Lib.countB ⟨s.toArray⟩ ⟨#[c]⟩ = s.count c := by
    show Lib.count (⟨s.toArray⟩ : ByteArray).data.toList [c] = _
    rw [ba]; exact Lib.count_one c s
  have hd : (Lib.splitB ⟨#[c]⟩ 0 (Lib.countB ⟨s.toArray⟩ ⟨#[c]⟩) ⟨s.toArray⟩).map (·.data.toList) = splitC c s := by
    rw [Lib.splitB_data, hc, ba]
    exact splitK_one c _ s (Nat.le_refl _)
  generalize hL : Lib.splitB ⟨#[c]⟩ 0 (Lib.countB ⟨s.toArray⟩ ⟨#[c]⟩) ⟨s.toArray⟩ = L at hd
  have hlen : L.length = Lib.countB ⟨s.toArray⟩ ⟨#[c]⟩ + 1 := by
    rw [← hL]
    have := splitC_len c s
    rw [← hd, List.length_map, ← hL] at this
    rw [this, hc]
  refine ⟨below_alloc w _, _, rfl, ?_⟩
  have hget : ∀ (j : Nat) (x : AV), ((splitC c s).map AV.str)[j]? = some x → ∃ t : ByteArray, L[j]? = some t ∧ x = .str t.data.toList := by
    intro j x e
    rw [← hd, List.map_map, List.getElem?_map] at e
    cases hq : L[j]? with
    | none => rw [hq] at e; cases e
    | some t => rw [hq] at e; cases e; exact ⟨t, rfl, rfl⟩
  have hB := heap_alloc_new w (.cells (L.map Value.string).toArray 9)
  have hmem : ∀ x ∈ (splitC c s).map AV.str, x.cells.length = 1 ∧ ∀ y ∈ x.cells, y.one = true := by
    intro x hx
    obtain ⟨t, _, rfl⟩ := List.mem_map.1 hx
    simp
  have := Rep.sl (X := X) (w := w.alloc (.cells (L.map Value.string).toArray 9)) (h := h) (bs := b) 1 ((splitC c s).map AV.str) w.heap.size 0 (Lib.countB ⟨s.toArray⟩ ⟨#[c]⟩ + 1) (fun j k => (L.map Value.string).toArray.getD (0 + (j * 1 + k)) undef)
    (by simp [splitC_ne]) (by simp) (by rw [← hlen, ← hd]; simp) (by
      have h1 := List.count_le_length (a := c) (l := s)
      rw [hc]; simp only [maxLen]; omega) (by simp) (fun hx => by have := hh.Xlt _ hx; omega) (fun hb => by have := hh.lt hb; omega) hmem
    (fun j x k y e1 e2 => by
      obtain ⟨t, h1, rfl⟩ := hget j x e1
      rw [cell_of_row _ _ _ _ _ _ hB]
      have hk : k = 0 := by cases k with | zero => rfl | succ k => simp at e2
      subst hk
      have : (L.map Value.string).toArray[0 + (j * 1 + 0)]? = some (.string t) := by simp [h1]
      rw [Array.getD_eq_getD_getElem?, this]; rfl)
    (fun j x k y e1 e2 => by
      obtain ⟨t, h1, rfl⟩ := hget j x e1
      have hk : k = 0 := by cases k with | zero => rfl | succ k => simp at e2
      subst hk
      have : (L.map Value.string).toArray[0 + (j * 1 + 0)]? = some (.string t) := by simp [h1]
      rw [Array.getD_eq_getD_getElem?, this]
      simp at e2; subst e2
      have e3 : (⟨t.data.toList.toArray⟩ : ByteArray) = t := by simp
      have := Rep.str (X := X) (w := w.alloc (.cells (L.map Value.string).toArray 9)) (h := h) (bs := b) t.data.toList
      rw [e3] at this; exact this)
  rwa [show ((splitC c s).map AV.str).length = Lib.countB ⟨s.toArray⟩ ⟨#[c]⟩ + 1 by rw [← hlen, ← hd]; simp] at this
theorem v_parse_ok (s : Str) (n : Int) (hs : s.length < 2 ^ 48) (h : Lib.parseIntB 64 s = .ok n) : V Tryz.prog 153 [.str s, .int .i64 10, .int .i64 64] (.ret (.tup [.int .i64 n, .nili])) := by
  refine V_lib fun X w h b vs hh hl => ?_
  obtain ⟨v, u, t, rfl, h1, h2, h3⟩ := three hl
  rw [h1.str_inv, h2.int_inv, h3.int_inv]
  refine (Tryz.strconv_ParseInt_10_at64_ok ⟨s.toArray⟩ (by rw [bs]; omega) n (by rw [ba]; assumption) w).mono ?_
  rintro e w' ⟨rfl, hw⟩
  refine ⟨?_, _, rfl, rep_tup2 (.int _ _) .nili⟩
  rcases hw with rfl | ⟨t, rfl⟩
  · exact Below.refl _ _
  · exact Lib.bytesWorld_below _ _ _
theorem v_parse_range (s : Str) (hs : s.length < 2 ^ 48) (h : Lib.parseIntB 64 s = .range) : V Tryz.prog 153 [.str s, .int .i64 10, .int .i64 64] (.ret (.tup [.int .i64 (Lib.intSat 64 s), .iface 255 .any])) := by
  refine V_lib fun X w h b vs hh hl => ?_
  obtain ⟨v, u, t, rfl, h1, h2, h3⟩ := three hl
  obtain ⟨_, ev, he1, he2, _⟩ := hh.gl.laid
  rw [h1.str_inv, h2.int_inv, h3.int_inv]
  refine (Tryz.strconv_ParseInt_10_at64_range ⟨s.toArray⟩ (by rw [bs]; omega) (by rw [ba]; assumption) ev w he1 he2).mono ?_
  rintro e w' ⟨N, rfl, _, _, hb⟩
  rw [ba]
  exact ⟨hb, _, rfl, rep_tup2 (.int _ _) (.iface _ _ _ (.any _))⟩
end Go.Proofs.YtmgoencdjkaobaaGreatDoor
