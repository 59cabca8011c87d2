/- The statement OperateFree, lifted to the row's form. No condition. -/
import Derived.Test.YtcbcegdidlefiaaGreatK11
import Derived.Test.YtcbcegdidlefiaaGreatK12
import Derived.Test.YtcbcegdidlefiaaGreatK39
import Derived.SizedLaws
namespace Go.Proofs.YtcbcegdidlefiaaGreat
open Go.ChangeShapes Go.WideShapes Go.ChangeAt Go.RowKit

set_option maxRecDepth 100000 in
theorem operateFree_lifted (os : Os) (started : os.Started) (H : Type) (enc : TypeId × Value → H) :
    ReturnsInHanded {} Tryz.checked os 5 .any (Rows.operateFreeSpec.pre6 enc Tryz.prog Tryz.f5 Rows.operateFreeRow.domain false) (Rows.operateFreeSpec.post enc Tryz.prog Tryz.f5 false true false false) := by
  refine returnsInHanded_of_change_sized (C := Tryz.checked) rowOwn started (by kernel_rfl) Tryz.func5
    (ChangeSpec.witness6 (enc := enc) (C := Tryz.checked) false ⟨#[], #[.slice none 0 0, .slice none 0 0], []⟩ 8 (by kernel_rfl) (by kernel_rfl) (by kernel_rfl) (by kernel_rfl)) ?_
  intro W base args ds gs before hval0 hW hcnd hsz _
  have hval : ∀ (j : Nat) t v, Tryz.f5.params[j]? = some t → args[j]? = some v → Value.okWide Tryz.prog W .any base t v := hval0
  have hW' := hW
  obtain ⟨p, q, hA0, hV, rfl, hfz, hnd⟩ := hW
  have hA : DataW.TrodAll enc Tryz.prog W 0 (fun _ => true) true Tryz.f5.params.toList args.toList ds p := hA0
  rw [Tryz.params5] at hA hval
  obtain ⟨v0, vs0, d0, ds0, p0, q0, hargs, rfl, rfl, h0, r0⟩ := trodAll_cons hA
  obtain ⟨v1, vs1, d1, ds1, p1, q1, rfl, rfl, rfl, h1, r1⟩ := trodAll_cons r0
  obtain ⟨rfl, rfl, rfl⟩ := trodAll_nil r1
  obtain rfl : args = #[v0, v1] := by cases args; simp_all
  obtain ⟨rfl, rfl⟩ := trodVars_none hV
  obtain ⟨a0, len0, cap0, rfl⟩ := okWide_slice Tryz.underlying58 (hval 0 58 v0 rfl rfl)
  obtain ⟨a1, len1, cap1, rfl⟩ := okWide_slice Tryz.underlying22 (hval 1 22 v1 rfl rfl)
  have lt0 : ∀ x ∈ p0, x.block < W.heap.size := by obtain ⟨m, hm⟩ := h0; exact DataW.trod_lt m _ _ _ hm
  have lt1 : ∀ x ∈ p1, x.block < W.heap.size := by obtain ⟨m, hm⟩ := h1; exact DataW.trod_lt m _ _ _ hm
  obtain ⟨l0, e0, R0, hd0⟩ := trod_tens h0
  obtain ⟨l1, e1, R1⟩ := trod_ints h1
  subst e0
  subst e1
  have hl0 : l0.length ≤ 3518437208883 := by
    rcases hd0 with rfl | ⟨es, sp, rfl, hes⟩
    · exact Nat.zero_le _
    · have hb : Tryz.checked.prog.bytesOf 66 = 40 := by kernel_rfl
      have := sized_slice hsz (j := 0) (t := 58) (e := 66) (elems := es) (spare := sp) (by rw [Tryz.params5]; rfl) rfl Tryz.underlying58
      rw [hb] at this
      have h47 := reachBytes_lt
      omega
  clear hA0 hval0
  refine (OperateFree_walk awake39_any free_any rfree_any l0 l1 a0 a1 cap0 cap1 W R0 R1 hl0).mono fun e W' ⟨he, kk⟩ => ?_
  subst he
  have bel : Below W.heap.size W W' := kk.toBelow (Nat.le_refl _) (fun _ _ h => h)
  exact ⟨_, rfl, _, _, _, [], _, [], hW', trodAll_mk1 (shut_bool Tryz.underlying4 _), (trodAll_cons_mk (Below.trod rowLaid (by kernel_rfl) (of_decide_eq_true (by kernel_rfl)) h0 bel lt0) (trodAll_cons_mk (Below.trod rowLaid (by kernel_rfl) (of_decide_eq_true (by kernel_rfl)) h1 bel lt1) trodAll_mk0)), rfl, bel.frame _, fun h => by cases h⟩
end Go.Proofs.YtcbcegdidlefiaaGreat
