/- The walk of the library: the keys of a set of values, in order. -/
import Derived.Test.YtekcfjfkbiciaaaTab
import Derived.Test.YtekcfjfkbiciaaaNew
namespace Go.Proofs.Ytekcfjfkbiciaaa
open Go.RowKit Go.Maps

theorem rises_of {l : List Pv} (hn : l.Nodup) (h : l.Pairwise fun a b => ¬ Pv.lt b a) : l.Pairwise Pv.lt := by
  have h2 := (List.pairwise_and_iff.2 ⟨hn, h⟩)
  exact h2.imp fun ⟨h1, h2⟩ => by
    rcases Pv.lin.tri _ _ with h3 | h3 | h3
    · exact h3
    · exact absurd h3 h1
    · exact absurd h3 h2
theorem sorted_is {l ss : List Pv} {S : Pv → Bool} (hf : ∀ v ∈ l, v.fits) (hS : ∀ x, S x = true ↔ x ∈ clAll l) (hr : ss.Pairwise Pv.lt) (hk : ∀ x ∈ ss, x.fitsK) (hm : ∀ x : Pv, x.fitsK → (x ∈ ss ↔ S x = true)) : ss = Pv.ord [] l := by
  rw [ord_nil]
  refine rises_uniq Pv.lin hr (sd_rises Pv.lin _) fun x => ?_
  rw [sd_mem Pv.lin, ← hS]
  constructor
  · intro h; exact (hm x (hk x h)).1 h
  · intro h; exact (hm x (Pv.fits_cl hf ((hS x).1 h)).k).2 h
set_option maxRecDepth 100000 in
theorem sorted_any (Bm b nn : Nat) (D0 : DataW Unit) (S : Pv → Bool) (hSI : SetIs D0 S) (w : World) (hlt : Bm < w.heap.size) (hcell : w.cell? ⟨Bm, 0, none⟩ = some (.map (some b))) (hown : w.ownsMap Try.prog 25 RB b nn D0) (hsz : Maps.size D0 ≤ 1000000) :
    Calls Try.prog 16 #[.func (.func 28) #[] #[.pointer (some ⟨Bm, 0, none⟩)], .func (.func 18) #[] #[]] w fun e w' => ∃ u l', e = .returned u ∧ VRow w' w.heap.size u l' ∧ l'.Pairwise Pv.lt ∧ (∀ x ∈ l', x.fitsK) ∧ (∀ x : Pv, x.fitsK → (x ∈ l' ↔ S x = true)) ∧ l'.length ≤ Maps.size D0 ∧ Below w.heap.size w w' := by
  have HCO := Lib.hid (collect_any 28 #[.pointer (some ⟨Bm, 0, none⟩)] (enters_of Try.func28 (by kernel_rfl) rfl) _ (Maps.size D0) hsz w (keys_gives Bm b nn D0 _ hSI w hlt hcell hown))
  clear hlt hcell hown hSI
  go_enter Try.func16, Try.ntmps16
  go_wp2_with fail
  refine HCO.out.mono ?_
  rintro e w1 ⟨v, ss, rfl, hS, hr, hlen, hb⟩
  have HR := Lib.hid hr
  have HS := Lib.hid hS
  have HB := Lib.hid hb
  clear hr hS hb HCO
  go_wp2_with fail
  refine (sort_any w.heap.size v ss w1 HR.out (by omega)).mono ?_
  rintro e w2 ⟨l', rfl, hr2, hperm, hpw, hg⟩
  have N := Lib.hid hr2
  have NB := Lib.hid (HB.out.grown hg HB.out.size (fun k hk => HR.out.base_le hk))
  have P := Lib.hid hperm
  have PW := Lib.hid hpw
  clear hr2 hperm hpw hg
  go_wp2
  go_ret
  exact ⟨_, l', rfl, N.out, rises_of (P.out.symm.nodup HS.out.1) PW.out, fun x hx => HS.out.2.1 x (P.out.mem_iff.1 hx), fun x hx => P.out.mem_iff.trans (HS.out.2.2 x hx), by rw [P.out.length_eq]; exact hlen, NB.out⟩
end Go.Proofs.Ytekcfjfkbiciaaa
