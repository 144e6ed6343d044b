/- The pure law GatherRises. Conditions: none. -/
import Derived.Test.YteajgbkgijaebaaPe
