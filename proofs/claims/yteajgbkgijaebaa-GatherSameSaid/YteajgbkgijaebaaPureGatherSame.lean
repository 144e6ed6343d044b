/- The pure law GatherSame. Conditions: none. -/
import Derived.Test.YteajgbkgijaebaaPh
