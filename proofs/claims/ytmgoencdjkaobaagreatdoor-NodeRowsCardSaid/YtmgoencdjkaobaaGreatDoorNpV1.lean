/- What the library's functions yield, as contracts of the calculus. The conditions stand in each. -/
import Derived.Test.YtmgoencdjkaobaaGreatDoorNpS
import Derived.Test.YtmgoencdjkaobaaGreatDoorNpL
import Derived.Test.YtmgoencdjkaobaaGreatDoorPeP
import Derived.WalkSmall
set_option linter.unusedVariables false
set_option linter.unusedSimpArgs false
namespace Go.Proofs.YtmgoencdjkaobaaGreatDoor
open Go Go.Pe Go.RowKit
theorem ba (l : List UInt8) : (⟨l.toArray⟩ : ByteArray).data.toList = l := by simp
theorem bs (l : List UInt8) : (⟨l.toArray⟩ : ByteArray).size = l.length := size_mk l
/-- A contract out of one of the shelf's. -/
theorem V_lib {f : FuncId} {args : List AV} {o : AV} (hc : ∀ (X : Env) (w : World) (h : List AObj) (bs : List (Option Nat)) (vs : List Value), HeapRel X w h bs → RepL X w h bs args vs → Calls Tryz.prog f vs.toArray w fun e w' => Below w.heap.size w w' ∧ ∃ x, e = .returned x ∧ Rep X w' h bs o x) : V Tryz.prog f args (.ret o) := by
  intro h X w bs vs hh hl
  refine (hc X w h bs vs hh hl).mono ?_
  rintro e w' ⟨hb, x, he, hx⟩
  have f := Fr.of_below hb h bs
  exact ⟨h, bs, o, x, w', hh.below f fun b hb2 => hb.block b hb2, f, hx, .inl ⟨he, rfl, rfl, rfl⟩⟩
theorem one {X : Env} {w : World} {h : List AObj} {bs : List (Option Nat)} {a : AV} {vs : List Value} (hl : RepL X w h bs [a] vs) : ∃ v, vs = [v] ∧ Rep X w h bs a v := by
  obtain ⟨l1, l2⟩ := hl
  match vs, l1 with
  | [v], _ => exact ⟨v, rfl, l2 0 _ _ rfl rfl⟩
theorem two {X : Env} {w : World} {h : List AObj} {bs : List (Option Nat)} {a b : AV} {vs : List Value} (hl : RepL X w h bs [a, b] vs) : ∃ v u, vs = [v, u] ∧ Rep X w h bs a v ∧ Rep X w h bs b u := by
  obtain ⟨l1, l2⟩ := hl
  match vs, l1 with
  | [v, u], _ => exact ⟨v, u, rfl, l2 0 _ _ rfl rfl, l2 1 _ _ rfl rfl⟩
theorem three {X : Env} {w : World} {h : List AObj} {bs : List (Option Nat)} {a b c : AV} {vs : List Value} (hl : RepL X w h bs [a, b, c] vs) : ∃ v u t, vs = [v, u, t] ∧ Rep X w h bs a v ∧ Rep X w h bs b u ∧ Rep X w h bs c t := by
  obtain ⟨l1, l2⟩ := hl
  match vs, l1 with
  | [v, u, t], _ => exact ⟨v, u, t, rfl, l2 0 _ _ rfl rfl, l2 1 _ _ rfl rfl, l2 2 _ _ rfl rfl⟩
theorem v_trim (s cs : Str) (hs : s.length < 2 ^ 48) (hcs : cs.length < 1000) (ha : ∀ b ∈ cs, b.toNat < 128) : V Tryz.prog 152 [.str s, .str cs] (.ret (.str (Lib.trimS s cs))) := by
  refine V_lib fun X w h b vs hh hl => ?_
  obtain ⟨v, u, rfl, h1, h2⟩ := two hl
  rw [h1.str_inv, h2.str_inv]
  refine (Tryz.strings_Trim ⟨s.toArray⟩ ⟨cs.toArray⟩ w (by rw [bs]; omega) (by rw [bs]; omega) (fun j x e => ha x (by rw [ba] at e; exact List.mem_of_getElem? e))).mono ?_
  rintro e w' ⟨rfl, hb⟩
  rw [ba, ba]
  exact ⟨hb, _, rfl, .str _⟩
theorem v_index (s : Str) (c : UInt8) : V Tryz.prog 150 [.str s, .str [c]] (.ret (.int .i64 (Lib.indexByte s c))) := by
  refine V_lib fun X w h b vs hh hl => ?_
  obtain ⟨v, u, rfl, h1, h2⟩ := two hl
  rw [h1.str_inv, h2.str_inv]
  refine (Tryz.strings_Index_one ⟨s.toArray⟩ c w).mono ?_
  rintro e w' ⟨rfl, rfl⟩
  rw [ba]
  exact ⟨Below.refl _ _, _, rfl, .int _ _⟩
theorem v_contains (s : Str) (c : UInt8) : V Tryz.prog 124 [.str s, .str [c]] (.ret (.bool (decide (0 ≤ Lib.indexByte s c)))) := by
  refine V_lib fun X w h b vs hh hl => ?_
  obtain ⟨v, u, rfl, h1, h2⟩ := two hl
  rw [h1.str_inv, h2.str_inv]
  refine (Tryz.strings_Contains_one ⟨s.toArray⟩ c w).mono ?_
  rintro e w' ⟨rfl, rfl⟩
  rw [ba]
  exact ⟨Below.refl _ _, _, rfl, .bool _⟩
theorem v_count (s : Str) (c : UInt8) : V Tryz.prog 149 [.str s, .str [c]] (.ret (.int .i64 (s.count c))) := by
  refine V_lib fun X w h b vs hh hl => ?_
  obtain ⟨v, u, rfl, h1, h2⟩ := two hl
  rw [h1.str_inv, h2.str_inv]
  refine (Tryz.strings_Count_one ⟨s.toArray⟩ c w).mono ?_
  rintro e w' ⟨rfl, rfl⟩
  rw [ba]
  exact ⟨Below.refl _ _, _, rfl, .int _ _⟩
theorem v_compare (s t : Str) : V Tryz.prog 99 [.str s, .str t] (.ret (.int .i64 (Lib.compareBytes s t))) := by
  refine V_lib fun X w h b vs hh hl => ?_
  obtain ⟨v, u, rfl, h1, h2⟩ := two hl
  rw [h1.str_inv, h2.str_inv]
  refine (Tryz.strings_Compare ⟨s.toArray⟩ ⟨t.toArray⟩ w).mono ?_
  rintro e w' ⟨rfl, rfl⟩
  rw [ba, ba]
  exact ⟨Below.refl _ _, _, rfl, .int _ _⟩
theorem v_cutPrefix (s p : Str) : V Tryz.prog 137 [.str s, .str p] (.ret (.tup [.str (Lib.trimPrefix s p), .bool (Lib.hasPrefix s p)])) := by
  refine V_lib fun X w h b vs hh hl => ?_
  obtain ⟨v, u, rfl, h1, h2⟩ := two hl
  rw [h1.str_inv, h2.str_inv]
  refine (Tryz.strings_CutPrefix ⟨s.toArray⟩ ⟨p.toArray⟩ w).mono ?_
  rintro e w' ⟨rfl, rfl⟩
  rw [ba, ba]
  exact ⟨Below.refl _ _, _, rfl, rep_tup2 (.str _) (.bool _)⟩
theorem v_cutSuffix (s p : Str) (hs : s.length < 2 ^ 48) : V Tryz.prog 128 [.str s, .str p] (.ret (.tup [.str (Lib.trimSuffix s p), .bool (Lib.hasSuffix s p)])) := by
  refine V_lib fun X w h b vs hh hl => ?_
  obtain ⟨v, u, rfl, h1, h2⟩ := two hl
  rw [h1.str_inv, h2.str_inv]
  refine (Tryz.strings_CutSuffix ⟨s.toArray⟩ ⟨p.toArray⟩ w (by rw [bs]; omega)).mono ?_
  rintro e w' ⟨rfl, rfl⟩
  rw [ba, ba]
  exact ⟨Below.refl _ _, _, rfl, rep_tup2 (.str _) (.bool _)⟩
theorem v_cut (s : Str) (c : UInt8) (hs : s.length < 4294967281) : V Tryz.prog 92 [.str s, .str [c]] (.ret (.tup [.str (cutC c s).1, .str (cutC c s).2.1, .bool (cutC c s).2.2])) := by
  refine V_lib fun X w h b vs hh hl => ?_
  obtain ⟨v, u, rfl, h1, h2⟩ := two hl
  obtain ⟨_, ev, _, _, m, hm⟩ := hh.gl.laid
  rw [h1.str_inv, h2.str_inv]
  refine (Tryz.strings_Cut ⟨s.toArray⟩ ⟨#[c]⟩ m w (by rw [bs]; exact hs) hm).mono ?_
  rintro e w' ⟨rfl, n, rfl⟩
  rw [ba, show (⟨#[c]⟩ : ByteArray).data.toList = [c] from rfl, cut_one]
  exact ⟨below_drewN (Below.refl _ _) n, _, rfl, rep_tup3 (.str _) (.str _) (.bool _)⟩
theorem v_itoa (n : Int) (h0 : -9223372036854775808 ≤ n) (h1 : n ≤ 9223372036854775807) : V Tryz.prog 109 [.int .i64 n, .int .i64 10] (.ret (.str (Lib.itoa n))) := by
  refine V_lib fun X w h b vs hh hl => ?_
  obtain ⟨v, u, rfl, h2, h3⟩ := two hl
  rw [h2.int_inv, h3.int_inv]
  refine (Tryz.strconv_FormatInt_10 n h0 h1 w hh.gl.laid.1).mono ?_
  rintro e w' ⟨rfl, k, os, rfl⟩
  exact ⟨below_grow (below_drewN (Below.refl _ _) k) (by simp) os, _, rfl, .str _⟩
theorem v_Itoa (n : Int) (h0 : -9223372036854775808 ≤ n) (h1 : n ≤ 9223372036854775807) : V Tryz.prog 60 [.int .i64 n] (.ret (.str (Lib.itoa n))) := by
  refine V_lib fun X w h b vs hh hl => ?_
  obtain ⟨v, rfl, h2⟩ := one hl
  rw [h2.int_inv]
  refine (Tryz.strconv_Itoa n h0 h1 w hh.gl.laid.1).mono ?_
  rintro e w' ⟨rfl, k, os, rfl⟩
  exact ⟨below_grow (below_drewN (Below.refl _ _) k) (by simp) os, _, rfl, .str _⟩
end Go.Proofs.YtmgoencdjkaobaaGreatDoor
