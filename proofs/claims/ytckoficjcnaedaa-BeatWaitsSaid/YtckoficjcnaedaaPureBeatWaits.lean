/- The pure law BeatWaits. Conditions: none. -/
import Derived.Test.YtckoficjcnaedaaPd
