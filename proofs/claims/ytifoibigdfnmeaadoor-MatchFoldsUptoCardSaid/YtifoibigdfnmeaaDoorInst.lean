/- The syntaxes, number by number (without names, times and lists of lines). -/
import Derived.Test.YtifoibigdfnmeaaDoorNorm
namespace Go.Proofs.YtifoibigdfnmeaaDoor.W
open Go.RowKit Go.Proofs.YtifoibigdfnmeaaDoor.Plain

theorem small {s : ByteArray} (h : s.size ≤ 1073741824) : s.size ≤ 140737488351232 := by omega
theorem k_text : NKind 1 162 153 nText := ⟨fun w hg => of_at 1 1 _ rfl (by omega) rfl w hg, fun _ _ => by kernel_rfl, enters_of Tryd.func153 (by kernel_rfl) rfl, fun s w hs _ => text_any s w (small hs)⟩
theorem k_exact : NKind 2 160 136 nExact := ⟨fun w hg => of_at 2 2 _ rfl (by omega) rfl w hg, fun _ _ => by kernel_rfl, enters_of Tryd.func136 (by kernel_rfl) rfl, fun s w hs _ => exact_any s w (small hs)⟩
theorem k_ia5 : NKind 3 167 161 nLowF := ⟨fun w hg => of_at 3 3 _ rfl (by omega) rfl w hg, fun _ _ => by kernel_rfl, enters_of Tryd.func161 (by kernel_rfl) rfl, fun s w hs _ => lowF_any s w (small hs)⟩
theorem k_ia5x : NKind 4 165 156 nLow := ⟨fun w hg => of_at 4 4 _ rfl (by omega) rfl w hg, fun _ _ => by kernel_rfl, enters_of Tryd.func156 (by kernel_rfl) rfl, fun s w hs _ => low_any s w (small hs)⟩
theorem k_num : NKind 5 168 163 nNum := ⟨fun w hg => of_at 5 5 _ rfl (by omega) rfl w hg, fun _ _ => by kernel_rfl, enters_of Tryd.func163 (by kernel_rfl) rfl, fun s w hs hg => num_any s w hs hg⟩
theorem k_phone : NKind 6 169 184 nPhone := ⟨fun w hg => of_at 6 6 _ rfl (by omega) rfl w hg, fun _ _ => by kernel_rfl, enters_of Tryd.func184 (by kernel_rfl) rfl, fun s w hs hg => phone_any s w hs hg⟩
theorem k_int : NKind 7 170 191 nInt := ⟨fun w hg => of_at 7 7 _ rfl (by omega) rfl w hg, fun _ _ => by kernel_rfl, enters_of Tryd.func191 (by kernel_rfl) rfl, fun s w hs _ => int_any s w hs⟩
theorem k_bool : NKind 8 171 195 nBool := ⟨fun w hg => of_at 8 8 _ rfl (by omega) rfl w hg, fun _ _ => by kernel_rfl, enters_of Tryd.func195 (by kernel_rfl) rfl, fun s w _ _ => bool_any s w⟩
theorem k_octet : NKind 9 172 196 nOctet := ⟨fun w hg => of_at 9 9 _ rfl (by omega) rfl w hg, fun _ _ => by kernel_rfl, enters_of Tryd.func196 (by kernel_rfl) rfl, fun s w _ _ => octet_any s w⟩
theorem k_oid : NKind 11 174 269 nOid := ⟨fun w hg => of_at 11 11 _ rfl (by omega) rfl w hg, fun _ _ => by kernel_rfl, enters_of Tryd.func269 (by kernel_rfl) rfl, fun s w hs hg => oid_any s w hs hg⟩

end Go.Proofs.YtifoibigdfnmeaaDoor.W
